/-
 Texts that belong together: NwF, NwG, NwH.
-/
-- halved
import Derived.Test.YthhhnfjcaicjnaaGreatDoorAbMac
import Derived.Test.YthhhnfjcaicjnaaGreatDoorNdA
set_option linter.unusedVariables false
set_option linter.unusedSimpArgs false
namespace Go.Proofs.YthhhnfjcaicjnaaGreatDoor
open Nat renaming reduceEqDiff → jA, reduceAdd → jB, reduceMul → jC, reduceLT → jD, reduceLeDiff → jE, reduceBEq → jF, reduceBNe → jG
open Int renaming reduceLE → jH, reduceLT → jI, reduceToNat → jJ, reduceEq → jK
open Go
set_option maxRecDepth 20000
set_option linter.defProp false
def tfNwF := tfNwB

theorem zn_ext {m mm : M} {bs : List (Option (List PV))} (h : Toks m mm) (v : PV) (m' : M) (hz : ZN (mm.ext bs) v m') : LeaveZ m (ZN m) v m' := by
 obtain ⟨⟨k, l, c, rfl⟩, rfl⟩ := hz
 exact leave_toks h rfl ⟨⟨k, l, c, rfl⟩, rfl⟩
theorem ACallsZ.leave {P : Program} {g : FuncId} {args : List PV} {m : M} {R R2 Z : PV → M → Prop} (h : ACallsZ P g args m R Z) (hl : ∀ v m', R v m' → ∃ v2 m2, Leave m m' v v2 m2 ∧ R2 v2 m2) : ACallsZ P g args m R2 Z := by
 refine ⟨h.1, fun G w vs hI hlen hr => (h.2 G w vs hI hlen hr).mono ?_⟩
 rintro e w' (⟨y, v', m', G', rfl, hR, h3, h4, h5⟩ | hz)
 ·obtain ⟨v2, m2, hv, hR2⟩ := hl _ _ hR
  obtain ⟨G2, g1, g2, g3⟩ := hv.sound hI h5 h4 h3
  exact .inl ⟨y, v2, m2, G2, rfl, hR2, g1, g2, g3⟩
 ·exact .inr hz
theorem nvarS_any (ns : List No) (E : List En) {V : List Va} {O : List Str} (v : Va) (hlen : V.length < 2 ^ 31) (m : M) : ACallsZ Tryz.prog 48 [lkE E ns, scN V O, v.pv] m (fun x m' => x = scN (V ++ [v]) O ∧ m' = m) (ZN m) :=
 ACallsZ.leave (nvar_any ns E v .no .no (.inl rfl) hlen m) (fun x m' ⟨t, h1, h2, _⟩ => by subst h1; exact leave_toks0 h2 rfl ⟨rfl, rfl⟩)
set_option maxHeartbeats 16000000 in
theorem nblock_step (ns : List No) (E : List En) (w : Qu → Nat) (B : Nat) (W : List Va) (Q : List Qu) (hwB : W.length + (Q.map w).sum ≤ B) (hQ0 : ∀ q ∈ Q, EqW ns E (w q) q) : BlkW ns E B W Q := by
 intro V O m x hVB hOB hx
 have hV := fun (k : Nat) (h : k < W.length) (O : List Str) (m : M) => nvarS_any ns E (V := V ++ W.take k) (O := O) W[k] (by rw [List.length_append, List.length_take]; omega) m
 obtain ⟨d, hd, hd1, hd2⟩ : ∃ d : TD, tdat Tryz.prog 9 = some d ∧ d.sz = 1 ∧ d.by_ ≤ 100 := ⟨(tdat Tryz.prog 9).get (by kernel_rfl), (Option.some_get _).symm, by kernel_rfl, of_decide_eq_true (by kernel_rfl)⟩
 have hcl := fun (l : List Str) (hl : l.length ≤ 2 ^ 32) m => clone_84 .no (l.map pS) m d hd (by rw [hd1]; exact str_one l) (by simp; unfold maxLen; omega) (by simp; have := Nat.mul_le_mul hl hd2; omega)
 have hf5 := fun (l c : Int) m => nfail_any 5 l c rfl m
 have hf4 := fun (l c : Int) m => nfail_any 4 l c rfl m
 have hctn := fun (s : Str) (m : M) => nctor_any ns E s m
 rw [hd1] at hcl
 unfold lkE scN at *
 refine eZ [5] Tryz.func49 ?_
 (repeat revert X); refine wE tfNwF ?_; repeat intro X hX
 obtain ⟨I, hI⟩ : ∃ I : F → M → Prop, ∀ f m', I f m' = (∃ (k : Nat) (o : Own) (mm : M), k ≤ W.length ∧ f 0 = .ep [.sl .no (E.map En.pv), .sl .no (ns.map No.pv)] ∧ f 3 = x ∧ f 5 = .bp m.nb 0 ∧ f 6 = .ep [.sl .no (W.map Va.pv), .sl .no (Q.map Qu.pv)] ∧ f 26 = .sl .no (W.map Va.pv) ∧ f 27 = pI W.length ∧ f 28 = pI k ∧ Toks m mm ∧ mm.ext [some [.sl .no ((V ++ W.take k).map Va.pv), .sl o ((O ++ (W.take k).map Va.name).map pS)]] = m') := ⟨_, fun _ _ => rfl⟩
 refine aLoop I (fun f m => W.length - numOf (f 28)) ?_ ?_
 ·rw [hI]
  refine ⟨0, .no, m, by omega, rfl, rfl, rfl, rfl, rfl, rfl, rfl, .refl _, ?_⟩
  simp only [List.take_zero, List.map_nil, List.append_nil]
 intro f m' hrel
 rw [hI] at hrel
 obtain ⟨k, o, mm, hk, f0, f3, f5, f6, f26, f27, f28, htk, rfl⟩ := hrel
 have hnb := htk.nb
 cases c1 : decide ((k : Int) < (W.length : Int)) with
 | true =>
  have hlt : k < W.length := by simpa using c1
  have g0 := getD_map Va.pv W k hlt
  have hi : IntKind.i64.wrap ((k : Int) + 1) = ((k + 1 : Nat) : Int) := by rw [wrap64 (by omega)]; omega
  have hme : numOf (f 28) = k := by rw [f28]; exact Int.toNat_natCast k
  have hVk := hV k hlt
  have hst : V ++ W.take (k + 1) = V ++ W.take k ++ [W[k]] := by rw [List.take_succ_eq_append_getElem hlt, List.append_assoc]
  have hso : O ++ (W.take (k + 1)).map Va.name = (O ++ (W.take k).map Va.name) ++ [W[k].name] := by rw [List.take_succ_eq_append_getElem hlt, List.map_append, List.append_assoc]; rfl
  have hol : (O ++ (W.take k).map Va.name).length ≤ 2 ^ 32 := by rw [List.length_append, List.length_map, List.length_take]; omega
  generalize hL : O ++ (W.take k).map Va.name = L at *
  generalize hG : V ++ W.take k = G at *
  have hc1 := hcl L hol
  have hVL := hVk L
  generalize W[k] = v at *
  (repeat (first | refine aSeq fun X hX => ?_ | refine aSkip ?_ | (first | apply aReg | apply aIf); simp -implicitDefEqProofs only [↓slp, slb, ↓reduceIte, reduceCtorEq, jA, jB, jE, jF, tfNwF, f0, f5, f26, f27, f28, pI, c1, g0, hnb] | apply hX; clear hX X | apply And.intro; focus omega))
  refine callPS (hVL _) (by simp only [List.map_cons, List.map_nil, PV.settle, PV.settles, Va.settle_pv]; rfl) (zn_ext htk) ?_
  rintro wv mw ⟨rfl, rfl⟩
  have t1 : Toks m (mm.fresh 1) := htk.use (o := .full) (s := 1) (s' := 1) .full
  have m1 : Mine m (mm.fresh 1) (.tok mm.nt) 1 := Mine.new (o := .full) htk 1
  have hal := m1.free
  have t2 := t1.use (s := 1) m1
  have hmx : L.length + 1 ≤ maxLen := by unfold maxLen; omega
  have hL1 := str_one L
  refine wS (And.intro tfNwF (And.intro hnb f5)) ?_
  (repeat (apply hX; clear hX X))
  refine aDrwE (isB mm [some [.sl .no ((G ++ [v]).map Va.pv), .sl .no (L.map pS)]]) (hne := List.cons_ne_nil _ _) rfl (by kernel_rfl) (by kernel_rfl) ⟨mm.toks, rfl⟩ ?_
  simp -implicitDefEqProofs only [↓slp, slb, ↓reduceIte, reduceCtorEq, jA, jB, jF, tfNwF, hnb, f5, isB_all, bt_nb, List.dropLast_cons_cons, List.dropLast_singleton, List.getLast_cons_cons, List.getLast_singleton]
  refine callM (hc1 _) ?_
  rintro wv mw ⟨rfl, rfl⟩
  refine ⟨⟨mm.toks ++ [some 1], rfl⟩, ?_⟩
  refine wS (And.intro tfNwF (And.intro hnb f5)) ?_
  refine ⟨⟨hal, hL1, hmx, by omega⟩, ⟨_, rfl⟩, ?_⟩
  (repeat (first | refine aReg ?_; simp -implicitDefEqProofs only [↓slp, slb, ↓reduceIte, jA, jF, f28, pI, hi] | apply hX; clear hX X))
  rw [hI]
  exact ⟨⟨k + 1, .tok (mm.fresh 1).nt, _, hlt, f0, f3, f5, f6, f26, f27, rfl, t2, by rw [hst, hso, List.map_append, List.map_append]; rfl⟩, by omega⟩
 | false =>
  have hk' : k = W.length := by simp at c1; omega
  subst hk'
  rw [List.take_length]
  obtain ⟨G, hG⟩ : ∃ G, V ++ W = G := ⟨_, rfl⟩
  obtain ⟨L, hL⟩ : ∃ L, O ++ W.map Va.name = L := ⟨_, rfl⟩
  have hGl : G.length = V.length + W.length := by rw [← hG, List.length_append]
  have hLl : L.length = O.length + W.length := by rw [← hL, List.length_append, List.length_map]
  rw [hG, hL]
  have hfv := fun (s : Str) (m : M) => findVar_any .no G s m
  obtain ⟨ms, hms⟩ : ∃ ms, mm.ext [some [.sl .no (G.map Va.pv), .sl o (L.map pS)]] = ms := ⟨_, rfl⟩
  have hgm : ms.get m.nb = some [.sl .no (G.map Va.pv), .sl o (L.map pS)] := by rw [← hms, ← hnb]; exact ext_get (i := 0) rfl
  have hZ : ∀ v m', ZN ms v m' → LeaveZ m (ZN m) v m' := fun v m' h => by
   subst hms
   exact zn_ext htk v m' h
  rw [hms]
  (repeat revert X); refine wE (And.intro tfNwF (And.intro f6 (And.intro f27 (And.intro f28 (And.intro @pI.eq_1 c1))))) ?_; repeat intro X hX
  obtain ⟨J, hJ⟩ : ∃ J : F → M → Prop, ∀ f m', J f m' = (∃ k : Nat, k ≤ W.length ∧ f 0 = .ep [.sl .no (E.map En.pv), .sl .no (ns.map No.pv)] ∧ f 3 = x ∧ f 5 = .bp m.nb 0 ∧ f 6 = .ep [.sl .no (W.map Va.pv), .sl .no (Q.map Qu.pv)] ∧ f 46 = .sl .no (W.map Va.pv) ∧ f 47 = pI W.length ∧ f 48 = pI k ∧ ms = m') := ⟨_, fun _ _ => rfl⟩
  refine aLoop J (fun f m => W.length - numOf (f 48)) ?_ ?_
  ·rw [hJ]; exact ⟨0, by omega, f0, f3, f5, f6, rfl, rfl, rfl, rfl⟩
  clear f0 f3 f5 f6 f26 f27 f28 hI I
  intro f m' hrel
  rw [hJ] at hrel
  obtain ⟨k, hk, f0, f3, f5, f6, f46, f47, f48, rfl⟩ := hrel
  cases c2 : decide ((k : Int) < (W.length : Int)) with
  | true =>
   have hlt : k < W.length := by simpa using c2
   have g0 := getD_map Va.pv W k hlt
   have hi : IntKind.i64.wrap ((k : Int) + 1) = ((k + 1 : Nat) : Int) := by rw [wrap64 (by omega)]; omega
   have hme : numOf (f 48) = k := by rw [f48]; exact Int.toNat_natCast k
   generalize W[k] = v at *
   (repeat (first | refine aSeq fun X hX => ?_ | refine aBlk ?_ | refine aSkip ?_ | (first | apply aReg | apply aIf); simp -implicitDefEqProofs only [↓slp, slb, ↓reduceIte, reduceCtorEq, jA, jB, jE, jF, tfNwF, f46, f47, f48, pI, c2, g0] | apply hX; clear hX X | intro hlen; unfold maxLen at hlen | apply And.intro; focus omega))
   obtain ⟨I2, hI2⟩ : ∃ I2 : F → M → Prop, ∀ f m', I2 f m' = (∃ j : Nat, j ≤ v.clock.length ∧ f 0 = .ep [.sl .no (E.map En.pv), .sl .no (ns.map No.pv)] ∧ f 3 = x ∧ f 5 = .bp m.nb 0 ∧ f 6 = .ep [.sl .no (W.map Va.pv), .sl .no (Q.map Qu.pv)] ∧ f 12 = .ep v.cs ∧ f 46 = .sl .no (W.map Va.pv) ∧ f 47 = pI W.length ∧ f 48 = pI k ∧ f 53 = .sl .no (v.clock.map On.pv) ∧ f 54 = pI v.clock.length ∧ f 55 = pI j ∧ ms = m') := ⟨_, fun _ _ => rfl⟩
   refine aLoop I2 (fun f m => v.clock.length - numOf (f 55)) ?_ ?_
   ·rw [hI2]; exact ⟨0, by omega, f0, f3, f5, f6, rfl, f46, f47, f48, rfl, rfl, rfl, rfl⟩
   clear f0 f3 f5 f6 f46 f47 f48
   intro f m' hrel
   rw [hI2] at hrel
   obtain ⟨j, hj, f0, f3, f5, f6, f12, f46, f47, f48, f53, f54, f55, rfl⟩ := hrel
   cases c3 : decide ((j : Int) < (v.clock.length : Int)) with
   | true =>
    have hltj : j < v.clock.length := by simpa using c3
    have gj := getD_map On.pv v.clock j hltj
    have hij : IntKind.i64.wrap ((j : Int) + 1) = ((j + 1 : Nat) : Int) := by rw [wrap64 (by omega)]; omega
    have hmej : numOf (f 55) = j := by rw [f55]; exact Int.toNat_natCast j
    have hfx := hfv v.clock[j].var
    have hc2 := hctn v.clock[j].ctor
    have hf51 := hf5 v.line v.col
    cases dz : decide (findVar G v.clock[j].var < 0) with
    | true =>
     (repeat (first | refine aSeq fun X hX => ?_ | refine aSkip ?_ | (first | apply aReg | apply aIf); simp -implicitDefEqProofs only [↓slp, slb, ↓reduceIte, reduceCtorEq, jA, jB, jE, jF, tfNwF, f5, f53, f54, f55, pI, c3, gj, hgm] | apply hX; clear hX X | apply And.intro; focus omega))
     (repeat (first | refine aSeq fun X hX => ?_ | apply aBlk | refine aSkip ?_ | (first | refine aExit ?_ | refine aRet ?_); try simp only [slx, ↓reduceIte, jA, reduceCtorEq] | (first | apply aReg | refine aDrE ?_ | apply aIf); simp -implicitDefEqProofs only [forall_eq, ↓slp, slb, ↓reduceIte, reduceCtorEq, jA, jB, jC, jD, jE, jF, jG, jH, jI, jJ, jK, tfNwF, f0, f5, f12, hgm, dz]; try simp only [fo] | apply hX; clear hX X | clear hX X; apply hX; clear hX X | clear hX X; clear hX X; apply hX; clear hX X | intro hlen; unfold maxLen at hlen | apply And.intro; · first | assumption | and_intros <;> first | omega | assumption))
     refine callE (hfx _) ?_
     refine wS (And.intro dz @pI.eq_1) ?_
     (repeat revert X); refine wD (And.intro tfNwF f12) ?_; repeat intro X hX
     exact callP (hf51 _) (hZ) (fun v m' h => h.elim)
    | false =>
     (repeat (first | refine aSeq fun X hX => ?_ | refine aSkip ?_ | (first | apply aReg | apply aIf); simp -implicitDefEqProofs only [↓slp, slb, ↓reduceIte, reduceCtorEq, jA, jB, jE, jF, tfNwF, f5, f53, f54, f55, pI, c3, gj, hgm] | apply hX; clear hX X | apply And.intro; focus omega))
     (repeat (first | refine aSeq fun X hX => ?_ | apply aBlk | refine aSkip ?_ | (first | refine aExit ?_ | refine aRet ?_); try simp only [slx, ↓reduceIte, jA, reduceCtorEq] | (first | apply aReg | refine aDrE ?_ | apply aIf); simp -implicitDefEqProofs only [forall_eq, ↓slp, slb, ↓reduceIte, reduceCtorEq, jA, jB, jC, jD, jE, jF, jG, jH, jI, jJ, jK, tfNwF, f0, f5, f12, hgm, dz]; try simp only [fo] | apply hX; clear hX X | clear hX X; apply hX; clear hX X | clear hX X; clear hX X; apply hX; clear hX X | intro hlen; unfold maxLen at hlen | apply And.intro; · first | assumption | and_intros <;> first | omega | assumption))
     refine callE (hfx _) ?_
     refine wS (And.intro tfNwF (And.intro f0 (And.intro dz @pI.eq_1))) ?_
     (repeat revert X); refine wD (And.intro tfNwF (And.intro f0 (And.intro f5 (And.intro f12 (And.intro hgm dz))))) ?_; repeat intro X hX
     refine callM (hc2 _) ?_
     rintro wv mw ⟨⟨b, rfl⟩, rfl⟩
     cases b with
     | false =>
      refine wS @pB.eq_1 ?_
      (repeat revert X); refine wD (And.intro tfNwF (And.intro f12 (And.intro f55 @pI.eq_1))) ?_; repeat intro X hX
      exact callP (hf51 _) (hZ) (fun v m' h => h.elim)
     | true =>
      refine wS @pB.eq_1 ?_
      (repeat (first | refine aSkip ?_ | (first | apply aReg | apply aIf); simp -implicitDefEqProofs only [↓slp, slb, ↓reduceIte, jA, jF, f55, pI, hij] | apply hX; clear hX X))
      rw [hI2]
      exact ⟨⟨j + 1, hltj, f0, f3, f5, f6, f12, f46, f47, f48, f53, f54, rfl, rfl⟩, by omega⟩
   | false =>
    (repeat (first | refine aSeq fun X hX => ?_ | refine aExit ?_; try simp only [slx, ↓reduceIte, jA, reduceCtorEq] | (first | apply aReg | apply aIf); simp -implicitDefEqProofs only [↓slp, slb, ↓reduceIte, jA, jF, f54, f55, f48, hi, pI, c3] | apply hX; clear hX X | clear hX X; apply hX; clear hX X))
    rw [hJ]
    exact ⟨⟨k + 1, hlt, f0, f3, f5, f6, f46, f47, rfl, rfl⟩, by omega⟩
  | false =>
   clear hZ
   subst hms
   have hBX : ∀ m2 : M, Toks m m2 → (m2.ext [some [.sl .no (G.map Va.pv), .sl o (L.map pS)]]).get m.nb = some [.sl .no (G.map Va.pv), .sl o (L.map pS)] := fun m2 h => by rw [← h.nb]; exact ext_get (i := 0) rfl
   (repeat (first | refine aSeq fun X hX => ?_ | refine aBlk ?_ | refine aExit ?_; try simp only [slx, ↓reduceIte, jA, reduceCtorEq] | (first | apply aReg | apply aIf); simp -implicitDefEqProofs only [↓slp, slb, ↓reduceIte, reduceCtorEq, jA, jB, jE, jF, tfNwF, f6, f47, f48, pI, c2] | apply hX; clear hX X | clear hX X; apply hX; clear hX X | intro hlen; unfold maxLen at hlen))
   obtain ⟨K, hK⟩ : ∃ K : F → M → Prop, ∀ f m', K f m' = (∃ (i : Nat) (dn : List Str) (od : Own) (m2 : M), i ≤ Q.length ∧ f 0 = .ep [.sl .no (E.map En.pv), .sl .no (ns.map No.pv)] ∧ f 3 = x ∧ f 5 = .bp m.nb 0 ∧ f 6 = .ep [.sl .no (W.map Va.pv), .sl .no (Q.map Qu.pv)] ∧ f 15 = .sl od (dn.map pS) ∧ f 78 = .sl .no (Q.map Qu.pv) ∧ f 79 = pI Q.length ∧ f 80 = pI i ∧ dn.length ≤ ((Q.take i).map w).sum ∧ Toks m m2 ∧ Mine m m2 od 1 ∧ m2.ext [some [.sl .no (G.map Va.pv), .sl o (L.map pS)]] = m') := ⟨_, fun _ _ => rfl⟩
   refine aLoop K (fun f m => Q.length - numOf (f 80)) ?_ ?_
   ·rw [hK]; exact ⟨0, [], .full, mm, by omega, f0, f3, f5, f6, rfl, rfl, rfl, rfl, Nat.zero_le _, htk, .full, rfl⟩
   clear f0 f3 f5 f6 f46 f47 f48
   intro f m' hrel
   rw [hK] at hrel
   obtain ⟨i, dn, od, m2, hil, f0, f3, f5, f6, f15, f78, f79, f80, hdl0, htk2, hmd, rfl⟩ := hrel
   have hg2 := hBX m2 htk2
   cases c3 : decide ((i : Int) < (Q.length : Int)) with
   | true =>
    have hlti : i < Q.length := by simpa using c3
    have g0 := getD_map Qu.pv Q i hlti
    have hii : IntKind.i64.wrap ((i : Int) + 1) = ((i + 1 : Nat) : Int) := by rw [wrap64 (by omega)]; omega
    have hmei : numOf (f 80) = i := by rw [f80]; exact Int.toNat_natCast i
    have hsb := sum_takeS w Q i hlti
    have hst : ((Q.take (i + 1)).map w).sum = ((Q.take i).map w).sum + w Q[i] := by rw [List.take_succ_eq_append_getElem hlti, List.map_append, List.sum_append]; simp
    have hqc := fun m => hQ0 Q[i] (List.getElem_mem hlti) G L m (by omega) (by omega)
    unfold lkE scN at hqc
    have hf41 := hf4 Q[i].line Q[i].col
    have hf51 := hf5 Q[i].line Q[i].col
    generalize Q[i] = q at *
    (repeat (first | refine aSeq fun X hX => ?_ | refine aSkip ?_ | (first | apply aReg | apply aIf); simp -implicitDefEqProofs only [↓slp, slb, ↓reduceIte, reduceCtorEq, jA, jB, jE, jF, tfNwF, f0, f5, f78, f79, f80, pI, c3, g0, hg2] | apply hX; clear hX X | apply And.intro; focus omega))
    refine callPS (hqc _) (by simp only [List.map_cons, List.map_nil, PV.settle, PV.settles, Qu.settle_pv]; rw [Qu.pv_eq]; rfl) (zn_ext htk2) ?_
    rintro v mc ⟨r, rfl, hrlen, hmc⟩
    subst hmc
    refine wS tfNwF ?_
    (repeat revert X); refine wE aEQ_t ?_; repeat intro X hX
    have hct := fun (o : Own) (l : List Str) (s : Str) (m : M) => contains_any o l s m
    obtain ⟨J2, hJ2⟩ : ∃ J2 : F → M → Prop, ∀ f m', J2 f m' = (∃ (j : Nat) (o3 : Own) (m3 : M), j ≤ r.length ∧ f 0 = .ep [.sl .no (E.map En.pv), .sl .no (ns.map No.pv)] ∧ f 3 = x ∧ f 5 = .bp m.nb 0 ∧ f 6 = .ep [.sl .no (W.map Va.pv), .sl .no (Q.map Qu.pv)] ∧ f 15 = .sl o3 ((dn ++ r.take j).map pS) ∧ f 17 = .ep q.cs ∧ f 78 = .sl .no (Q.map Qu.pv) ∧ f 79 = pI Q.length ∧ f 80 = pI i ∧ f 87 = .sl .no (r.map pS) ∧ f 88 = pI r.length ∧ f 89 = pI j ∧ Toks m m3 ∧ Mine m m3 o3 1 ∧ m3.ext [some [.sl .no (G.map Va.pv), .sl o (L.map pS)]] = m') := ⟨_, fun _ _ => rfl⟩
    refine aLoop J2 (fun f m => r.length - numOf (f 89)) ?_ ?_
    ·rw [hJ2]; exact ⟨0, od, m2, by omega, f0, f3, f5, f6, by rw [List.take_zero, List.append_nil]; exact f15, rfl, f78, f79, f80, rfl, rfl, rfl, htk2, hmd, rfl⟩
    clear f0 f3 f5 f6 f15 f78 f79 f80 hg2
    intro f m' hrel
    rw [hJ2] at hrel
    obtain ⟨j, o3, m3, hj, f0, f3, f5, f6, f15, f17, f78, f79, f80, f87, f88, f89, htk3, hm3, rfl⟩ := hrel
    have hg3 := hBX m3 htk3
    cases c4 : decide ((j : Int) < (r.length : Int)) with
    | true =>
     have hltj : j < r.length := by simpa using c4
     have gj := getD_map pS r j hltj
     have hij : IntKind.i64.wrap ((j : Int) + 1) = ((j + 1 : Nat) : Int) := by rw [wrap64 (by omega)]; omega
     have hmej : numOf (f 89) = j := by rw [f89]; exact Int.toNat_natCast j
     have hmin : (if (q.lhs.length : Int) < (j : Int) then (q.lhs.length : Int) else (j : Int)) = ((min j q.lhs.length : Nat) : Int) := by split <;> omega
     have hca := hct o3 (dn ++ r.take j) r[j]
     have hcb := hct .no (q.lhs.take (min j q.lhs.length)) r[j]
     have hcc := hct o L r[j]
     rw [List.map_take] at hcb
     have hLq := str_one q.lhs
     have hfr := hm3.free
     have hLa := str_one (dn ++ r.take j)
     have h1 : ∀ y ∈ [pS r[j]], y.cells.length = 1 := str_one [r[j]]
     have hla : (dn ++ r.take j).length ≤ 2 ^ 31 + 200 := by rw [List.length_append, List.length_take]; omega
     have hmx2 : (dn ++ r.take j).length + 1 ≤ maxLen := by unfold maxLen; omega
     cases hx1 : hasS (dn ++ r.take j) r[j] with
     | true =>
      (repeat (first | refine aSeq fun X hX => ?_ | refine aSkip ?_ | (first | apply aReg | apply aIf); simp -implicitDefEqProofs only [↓slp, slb, ↓reduceIte, reduceCtorEq, jA, jB, jF, tfNwF, f15, f87, f88, f89, pI, c4, gj] | apply hX; clear hX X | apply And.intro; focus omega))
      refine callE (hca _) ?_
      refine wS (And.intro @pB.eq_1 hx1) ?_
      (repeat revert X); refine wD (And.intro tfNwF f17) ?_; repeat intro X hX
      exact callP (hf41 _) (zn_ext htk3) (fun v m' h => h.elim)
     | false =>
     cases hx2 : hasS (q.lhs.take (min j q.lhs.length)) r[j] with
     | true =>
      (repeat (first | refine aSeq fun X hX => ?_ | refine aSkip ?_ | (first | apply aReg | apply aIf); simp -implicitDefEqProofs only [↓slp, slb, ↓reduceIte, reduceCtorEq, jA, jB, jF, tfNwF, f15, f87, f88, f89, pI, c4, gj] | apply hX; clear hX X | apply And.intro; focus omega))
      refine callE (hca _) ?_
      refine wS (And.intro tfNwF (And.intro @pB.eq_1 (And.intro hx1 (And.intro f17 hmin)))) ?_
      (repeat (first | refine aSeq fun X hX => ?_ | apply aBlk | refine aSkip ?_ | (first | refine aExit ?_ | refine aRet ?_); try simp only [slx, ↓reduceIte, jA, reduceCtorEq] | (first | apply aReg | refine aDrE ?_ | apply aIf); simp -implicitDefEqProofs only [forall_eq, ↓slp, slb, ↓reduceIte, reduceCtorEq, jA, jB, jC, jD, jE, jF, jG, jH, jI, jJ, jK, tfNwF, pB, hx1, f15, f17, hmin]; try simp only [fo] | apply hX; clear hX X | clear hX X; apply hX; clear hX X | clear hX X; clear hX X; apply hX; clear hX X | intro hlen; unfold maxLen at hlen | apply And.intro; · first | assumption | and_intros <;> first | omega | assumption))
      refine ⟨⟨by omega, _, rfl, hLq⟩, ?_⟩
      refine callE (hcb _) ?_
      refine wS (And.intro @pB.eq_1 hx2) ?_
      (repeat revert X); refine wD (And.intro tfNwF f17) ?_; repeat intro X hX
      exact callP (hf41 _) (zn_ext htk3) (fun v m' h => h.elim)
     | false =>
     cases hx3 : hasS L r[j] with
     | false =>
      (repeat (first | refine aSeq fun X hX => ?_ | refine aSkip ?_ | (first | apply aReg | apply aIf); simp -implicitDefEqProofs only [↓slp, slb, ↓reduceIte, reduceCtorEq, jA, jB, jF, tfNwF, f15, f87, f88, f89, pI, c4, gj] | apply hX; clear hX X | apply And.intro; focus omega))
      refine callE (hca _) ?_
      refine wS (And.intro tfNwF (And.intro @pB.eq_1 (And.intro hx1 (And.intro f17 hmin)))) ?_
      (repeat (first | refine aSeq fun X hX => ?_ | apply aBlk | refine aSkip ?_ | (first | refine aExit ?_ | refine aRet ?_); try simp only [slx, ↓reduceIte, jA, reduceCtorEq] | (first | apply aReg | refine aDrE ?_ | apply aIf); simp -implicitDefEqProofs only [forall_eq, ↓slp, slb, ↓reduceIte, reduceCtorEq, jA, jB, jC, jD, jE, jF, jG, jH, jI, jJ, jK, tfNwF, pB, hx1, f15, f17, hmin]; try simp only [fo] | apply hX; clear hX X | clear hX X; apply hX; clear hX X | clear hX X; clear hX X; apply hX; clear hX X | intro hlen; unfold maxLen at hlen | apply And.intro; · first | assumption | and_intros <;> first | omega | assumption))
      refine ⟨⟨by omega, _, rfl, hLq⟩, ?_⟩
      refine callE (hcb _) ?_
      refine wS (And.intro @pB.eq_1 hx2) ?_
      (repeat revert X); refine wE (And.intro tfNwF (And.intro f5 hg3)) ?_; repeat intro X hX
      refine callE (hcc _) ?_
      refine wS (And.intro @pB.eq_1 hx3) ?_
      (repeat revert X); refine wD (And.intro tfNwF f17) ?_; repeat intro X hX
      exact callP (hf51 _) (zn_ext htk3) (fun v m' h => h.elim)
     | true =>
      (repeat (first | refine aSeq fun X hX => ?_ | refine aSkip ?_ | (first | apply aReg | apply aIf); simp -implicitDefEqProofs only [↓slp, slb, ↓reduceIte, reduceCtorEq, jA, jB, jF, tfNwF, f15, f87, f88, f89, pI, c4, gj] | apply hX; clear hX X | apply And.intro; focus omega))
      refine callE (hca _) ?_
      refine wS (And.intro tfNwF (And.intro @pB.eq_1 (And.intro hx1 (And.intro f17 hmin)))) ?_
      (repeat (first | refine aSeq fun X hX => ?_ | apply aBlk | refine aSkip ?_ | (first | refine aExit ?_ | refine aRet ?_); try simp only [slx, ↓reduceIte, jA, reduceCtorEq] | (first | apply aReg | refine aDrE ?_ | apply aIf); simp -implicitDefEqProofs only [forall_eq, ↓slp, slb, ↓reduceIte, reduceCtorEq, jA, jB, jC, jD, jE, jF, jG, jH, jI, jJ, jK, tfNwF, pB, hx1, f15, f17, hmin]; try simp only [fo] | apply hX; clear hX X | clear hX X; apply hX; clear hX X | clear hX X; clear hX X; apply hX; clear hX X | intro hlen; unfold maxLen at hlen | apply And.intro; · first | assumption | and_intros <;> first | omega | assumption))
      refine ⟨⟨by omega, _, rfl, hLq⟩, ?_⟩
      refine callE (hcb _) ?_
      refine wS (And.intro @pB.eq_1 hx2) ?_
      (repeat revert X); refine wE (And.intro tfNwF (And.intro f5 hg3)) ?_; repeat intro X hX
      refine callE (hcc _) ?_
      refine wS (And.intro @pB.eq_1 hx3) ?_
      (repeat (first | refine aSkip ?_ | (first | apply aReg | apply aIf); simp -implicitDefEqProofs only [forall_eq, ↓slp, slb, ↓reduceIte, jA, jB, jC, jE, jF, tfNwF, f15, f89, hij] | apply hX; clear hX X | apply And.intro; focus ((repeat' apply And.intro) <;> first | omega | assumption)))
      rw [hJ2]
      exact ⟨⟨j + 1, .tok (m3.ext [some [.sl .no (G.map Va.pv), .sl o (L.map pS)]]).nt, (o3.use m3).fresh 1, hltj, f0, f3, f5, f6, by rw [List.take_succ_eq_append_getElem hltj, ← List.append_assoc]; exact congrArg (PV.sl _) (List.map_append (f := pS) (l₁ := dn ++ List.take j r) (l₂ := [r[j]])).symm, f17, f78, f79, f80, f87, f88, rfl, htk3.use hm3, Mine.new htk3 o3 1, rfl⟩, by omega⟩
    | false =>
     have hjj : j = r.length := by simp at c4; omega
     subst hjj
     rw [List.take_length] at f15
     (repeat (first | refine aSeq fun X hX => ?_ | refine aExit ?_; try simp only [slx, ↓reduceIte, jA, reduceCtorEq] | (first | apply aReg | apply aIf); simp -implicitDefEqProofs only [↓slp, slb, ↓reduceIte, jA, jF, f80, hii, f88, f89, pI, c4] | apply hX; clear hX X | clear hX X; apply hX; clear hX X))
     rw [hK]
     exact ⟨⟨i + 1, dn ++ r, o3, m3, hlti, f0, f3, f5, f6, f15, f78, f79, rfl, by rw [List.length_append]; omega, htk3, hm3, rfl⟩, by omega⟩
   | false =>
    have hii : i = Q.length := by simp at c3; omega
    subst hii
    rw [List.take_length] at hdl0
    have hdl : dn.length ≤ 2 ^ 30 := by omega
    have hct := fun (o : Own) (l : List Str) (s : Str) (m : M) => contains_any o l s m
    have hfV := fun (s : Str) (m : M) => findVar_any .no W s m
    have hcl2 := fun q a m => ncloW_any ns E G L q a m
    unfold lkE scN at hcl2
    have hnf : ofV Value.nilFunc = .v .nilFunc := rfl
    obtain ⟨I2, hI2⟩ : ∃ I2 : F → M → Prop, ∀ f m', I2 f m' = (∃ (j : Nat) (oo : Own) (m3 : M), j ≤ dn.length ∧ f 6 = .ep [.sl .no (W.map Va.pv), .sl .no (Q.map Qu.pv)] ∧ f 15 = .sl od (dn.map pS) ∧ f 20 = .sl oo (((dn.take j).filter (fun s => decide (findVar W s < 0))).map pS) ∧ f 131 = .sl od (dn.map pS) ∧ f 132 = pI dn.length ∧ f 133 = pI j ∧ Toks m m3 ∧ Mine m m3 oo 1 ∧ m3.ext [some [.sl .no (G.map Va.pv), .sl o (L.map pS)]] = m') := ⟨_, fun _ _ => rfl⟩
    (repeat revert X); refine wE (And.intro tfNwF (And.intro f3 (And.intro f79 (And.intro f80 (And.intro @pI.eq_1 c3))))) ?_; repeat intro X hX
    rename_i X0 hX0
    have join : ∀ f : F, f 6 = .ep [.sl .no (W.map Va.pv), .sl .no (Q.map Qu.pv)] → f 15 = .sl od (dn.map pS) → X0 f (m2.ext [some [.sl .no (G.map Va.pv), .sl o (L.map pS)]]) := by
     intro f f6 f15
     refine hX0 _ _ ?_
     clear hX X hX0 X0
     (repeat revert X); refine wE (And.intro tfNwF f15) ?_; repeat intro X hX
     refine aLoop I2 (fun f m => dn.length - numOf (f 133)) ?_ ?_
     ·rw [hI2]
      exact ⟨0, .full, m2, by omega, f6, f15, rfl, rfl, rfl, rfl, htk2, .full, rfl⟩
     clear f6 f15
     intro f m' hrel
     rw [hI2] at hrel
     obtain ⟨j, oo, m3, hj, f6, f15, f20, f131, f132, f133, htk3, hm3, rfl⟩ := hrel
     cases c4 : decide ((j : Int) < (dn.length : Int)) with
     | true =>
      have hltj : j < dn.length := by simpa using c4
      have gj := getD_map pS dn j hltj
      have hij : IntKind.i64.wrap ((j : Int) + 1) = ((j + 1 : Nat) : Int) := by rw [wrap64 (by omega)]; omega
      have hmej : numOf (f 133) = j := by rw [f133]; exact Int.toNat_natCast j
      have hnx : (dn.take (j + 1)).filter (fun s => decide (findVar W s < 0)) = (dn.take j).filter (fun s => decide (findVar W s < 0)) ++ (if decide (findVar W dn[j] < 0) = true then [dn[j]] else []) := by
       rw [List.take_succ_eq_append_getElem hltj, List.filter_append]
       congr 1
       rw [List.filter_cons, List.filter_nil]
      have hol : ((dn.take j).filter (fun s => decide (findVar W s < 0))).length ≤ 2 ^ 31 + 100 := by
       have := List.length_filter_le (fun s => decide (findVar W s < 0)) (dn.take j)
       rw [List.length_take] at this
       omega
      have hfx := hfV dn[j]
      generalize hOut : (dn.take j).filter (fun s => decide (findVar W s < 0)) = out at *
      have hfr := hm3.free
      have hLa := str_one out
      have h1 : ∀ y ∈ [pS dn[j]], y.cells.length = 1 := str_one [dn[j]]
      have hmx2 : out.length + 1 ≤ maxLen := by unfold maxLen; omega
      (repeat (first | refine aSeq fun X hX => ?_ | refine aSkip ?_ | (first | apply aReg | apply aIf); simp -implicitDefEqProofs only [↓slp, slb, ↓reduceIte, reduceCtorEq, jA, jB, jE, jF, tfNwF, f6, f131, f132, f133, pI, c4, gj] | apply hX; clear hX X | apply And.intro; focus omega))
      refine callE (hfx _) ?_
      cases c5 : decide (findVar W dn[j] < 0) with
      | true =>
       rw [c5, if_pos rfl] at hnx
       refine wS (And.intro @pI.eq_1 c5) ?_
       (repeat (first | (first | apply aReg | apply aIf); simp -implicitDefEqProofs only [forall_eq, ↓slp, slb, ↓reduceIte, reduceCtorEq, jA, jB, jC, jE, jF, tfNwF, pI, f20, f133, hij] | apply hX; clear hX X | apply And.intro; focus ((repeat' apply And.intro) <;> first | omega | assumption)))
       rw [hI2]
       exact ⟨⟨j + 1, .tok (m3.ext [some [.sl .no (G.map Va.pv), .sl o (L.map pS)]]).nt, (oo.use m3).fresh 1, hltj, f6, f15, by rw [hnx]; exact congrArg (PV.sl _) (List.map_append (f := pS) (l₁ := out) (l₂ := [dn[j]])).symm, f131, f132, rfl, htk3.use hm3, Mine.new htk3 oo 1, rfl⟩, by omega⟩
      | false =>
       rw [c5, if_neg (by simp), List.append_nil] at hnx
       refine wS (And.intro @pI.eq_1 c5) ?_
       (repeat (first | refine aSkip ?_ | (first | apply aReg | apply aIf); simp -implicitDefEqProofs only [↓slp, slb, ↓reduceIte, jA, jF, pI, f133, hij] | apply hX; clear hX X))
       rw [hI2]
       exact ⟨⟨j + 1, oo, m3, hltj, f6, f15, by rw [hnx]; exact f20, f131, f132, rfl, htk3, hm3, rfl⟩, by omega⟩
     | false =>
      have hjj : j = dn.length := by simp at c4; omega
      subst hjj
      rw [List.take_length] at f20
      (repeat revert X); refine wE (And.intro tfNwF (And.intro f6 (And.intro f132 (And.intro f133 (And.intro @pI.eq_1 c4))))) ?_; repeat intro X hX
      obtain ⟨I3, hI3⟩ : ∃ I3 : F → M → Prop, ∀ f m', I3 f m' = (∃ (j : Nat), j ≤ W.length ∧ f 15 = .sl od (dn.map pS) ∧ f 20 = .sl oo ((dn.filter (fun s => decide (findVar W s < 0))).map pS) ∧ f 148 = .sl .no (W.map Va.pv) ∧ f 149 = pI W.length ∧ f 150 = pI j ∧ m3.ext [some [.sl .no (G.map Va.pv), .sl o (L.map pS)]] = m') := ⟨_, fun _ _ => rfl⟩
      refine aLoop I3 (fun f m => W.length - numOf (f 150)) ?_ ?_
      ·rw [hI3]
       exact ⟨0, by omega, f15, f20, rfl, rfl, rfl, rfl⟩
      clear f6 f15 f20 f131 f132 f133
      intro f m' hrel
      rw [hI3] at hrel
      obtain ⟨j, hj, f15, f20, f148, f149, f150, rfl⟩ := hrel
      cases c5 : decide ((j : Int) < (W.length : Int)) with
      | true =>
       have hltj : j < W.length := by simpa using c5
       have gj := getD_map Va.pv W j hltj
       have hij : IntKind.i64.wrap ((j : Int) + 1) = ((j + 1 : Nat) : Int) := by rw [wrap64 (by omega)]; omega
       have hmej : numOf (f 150) = j := by rw [f150]; exact Int.toNat_natCast j
       have hcc := hct od dn W[j].name
       have hf51 := hf5 W[j].line W[j].col
       generalize W[j] = v at *
       cases hin : hasS dn v.name with
       | true =>
        (repeat (first | refine aSeq fun X hX => ?_ | refine aSkip ?_ | (first | apply aReg | apply aIf); simp -implicitDefEqProofs only [↓slp, slb, ↓reduceIte, reduceCtorEq, jA, jB, jE, jF, tfNwF, f15, f148, f149, f150, pI, c5, gj] | apply hX; clear hX X | apply And.intro; focus omega))
        refine callE (hcc _) ?_
        refine wS (And.intro @pB.eq_1 hin) ?_
        (repeat (first | refine aSkip ?_ | (first | apply aReg | apply aIf); simp -implicitDefEqProofs only [↓slp, slb, ↓reduceIte, jA, jF, f150, pI, hij] | apply hX; clear hX X))
        rw [hI3]
        exact ⟨⟨j + 1, hltj, f15, f20, f148, f149, rfl, rfl⟩, by omega⟩
       | false =>
        (repeat (first | refine aSeq fun X hX => ?_ | refine aSkip ?_ | (first | apply aReg | apply aIf); simp -implicitDefEqProofs only [↓slp, slb, ↓reduceIte, reduceCtorEq, jA, jB, jE, jF, tfNwF, f15, f148, f149, f150, pI, c5, gj] | apply hX; clear hX X | apply And.intro; focus omega))
        refine callE (hcc _) ?_
        refine wS (And.intro @pB.eq_1 hin) ?_
        (repeat revert X); refine wD (And.intro tfNwF (And.intro f150 @pI.eq_1)) ?_; repeat intro X hX
        exact callP (hf51 _) (zn_ext htk3) (fun v m' h => h.elim)
      | false =>
       (repeat revert X); refine wE (And.intro f20 (And.intro f149 (And.intro f150 (And.intro @pI.eq_1 c5)))) ?_; repeat intro X hX
       refine wQ Tryz.results49 aEQ_t ?_
       exact leave_toks htk3 rfl ⟨_, rfl, by have := List.length_filter_le (fun s => decide (findVar W s < 0)) dn; omega, rfl⟩
    rcases hx with hx | ⟨q, a, hx⟩
    ·subst hx
     refine wS hnf ?_
     (repeat revert X); refine wE aEQ_t ?_; repeat intro X hX
     exact join _ f6 f15
    ·subst hx
     unfold lkE at *
     refine wS (And.intro tfNwF hnf) ?_
     (repeat revert X); refine wE (And.intro tfNwF (And.intro f3 (And.intro f5 hg2))) ?_; repeat intro X hX
     refine callPS (hcl2 q a _) (by simp only [List.map_cons, List.map_nil, PV.settle, PV.settles]; rfl) (zn_ext htk2) ?_
     rintro v mc ⟨rfl, hmc⟩
     subst hmc
     refine wS aEQ_t ?_
     (repeat revert X); refine wE tfNwF ?_; repeat intro X hX
     exact join _ f6 f15

def RsQ (pb : List Va → List Qu → Prop) (q : Qu) : Prop := (q.kind = 5 → q.arms ≠ []) ∧ ∀ a ∈ q.arms, pb a.vars a.eqs
def RsB : Nat → List Va → List Qu → Prop
 | 0 => fun _ Q => ∀ q ∈ Q, RsQ (fun _ _ => False) q
 | d + 1 => fun _ Q => ∀ q ∈ Q, RsQ (RsB d) q
theorem neq_good (ns : List No) (E : List En) (wb : WbT) (pb : List Va → List Qu → Prop) (hpb : ∀ B V Q, pb V Q → wb V Q ≤ B → BlkW ns E B V Q) (q : Qu) (hq : RsQ pb q) : EqW ns E (wtQ wb q) q := by
 refine neq_step ns E _ q (by unfold wtQ; omega) (fun h5 => ?_) ?_
 ·have hne := hq.1 h5
  cases har : q.arms with
  | nil => exact absurd har hne
  | cons a r =>
   have ha : a ∈ q.arms := by rw [har]; exact List.mem_cons_self ..
   exact ⟨a, r, rfl, hpb _ _ _ (hq.2 a ha) (wt_blk ha)⟩
 ·refine narms_step ns E (fun a => wb a.vars a.eqs) _ q ?_ (wt_arms wb q) (fun a ha => hpb _ _ _ (hq.2 a ha) (Nat.le_refl _))
  have h1 : (q.arms.map (fun a => wb a.vars a.eqs)).sum ≤ (q.arms.map (wtA wb)).sum := by
   generalize q.arms = l
   induction l with
   | nil => exact Nat.le_refl _
   | cons a l ih =>
    simp only [List.map_cons, List.sum_cons]
    have : wb a.vars a.eqs ≤ wtA wb a := by unfold wtA; omega
    omega
  unfold wtQ; omega
theorem nblock_good (ns : List No) (E : List En) (wb : WbT) (pb : List Va → List Qu → Prop) (hpb : ∀ B V Q, pb V Q → wb V Q ≤ B → BlkW ns E B V Q) (B : Nat) (V : List Va) (Q : List Qu) (hQ : ∀ q ∈ Q, RsQ pb q) (hB : wtB wb V Q ≤ B) : BlkW ns E B V Q :=
 nblock_step ns E (wtQ wb) B V Q hB (fun q hq => neq_good ns E wb pb hpb q (hQ q hq))
theorem nblock_any (ns : List No) (E : List En) : ∀ (d : Nat) (B : Nat) (V : List Va) (Q : List Qu), RsB d V Q → wtF d V Q ≤ B → BlkW ns E B V Q
 | 0, B, V, Q, h, hB => nblock_good ns E (fun _ _ => 0) (fun _ _ => False) (fun _ _ _ h => h.elim) B V Q h hB
 | d + 1, B, V, Q, h, hB => nblock_good ns E (wtF d) (RsB d) (fun B V Q h hw => nblock_any ns E d B V Q h hw) B V Q h hB

def tfNwH := tfNwB

def NdW (d : Nat) (n : No) : Prop := (n.ins ++ n.outs).length ≤ 2 ^ 29 ∧ wtF d n.b.vars n.b.eqs ≤ 2 ^ 29 ∧ RsB d n.b.vars n.b.eqs
set_option maxHeartbeats 16000000 in
theorem nnode_any (ns : List No) (E : List En) (d : Nat) (n : No) (hn : NdW d n) (m : M) : ACallsZ Tryz.prog 24 [lkE E ns, n.pv] m (unitP m) (ZN m) := by
 obtain ⟨hl, hw, hb⟩ := hn
 have hcc := fun o m1 => concatV_any o [n.ins, n.outs] m1 (by rw [show [n.ins, n.outs].flatten = n.ins ++ n.outs by simp]; omega)
 have hLf : [n.ins, n.outs].flatten = n.ins ++ n.outs := by simp
 have hol : n.outs.length ≤ 2 ^ 29 := by rw [List.length_append] at hl; omega
 have hoL : n.outs.length ≤ (n.ins ++ n.outs).length := by rw [List.length_append]; omega
 have hf5 := fun (l c : Int) m => nfail_any 5 l c rfl m
 rw [hLf] at hcc
 simp only [pLV, List.map_cons, List.map_nil] at hcc
 obtain ⟨L, hL⟩ : ∃ L, n.ins ++ n.outs = L := ⟨_, rfl⟩
 rw [hL] at hcc hl hoL
 have hB := fun (m : M) => nblock_any ns E d _ _ _ hb (Nat.le_refl _) L (n.outs.map Va.name) m (.v .nilFunc) (by omega) (by rw [List.length_map]; omega) (.inl rfl)
 have hV := fun (k : Nat) (h : k < L.length) (o1 : Own) (m : M) => nvar_any ns E (V := L.take k) (O := []) L[k] o1 .full (.inr rfl) (by rw [List.length_take]; omega) m
 unfold lkE scN at *
 have hnf : ofV Value.nilFunc = .v .nilFunc := rfl
 refine eZ [4] Tryz.func24 ?_
 (repeat revert X); refine wE tfNwH ?_; repeat intro X hX
 refine callE (hcc _ _) ?_
 refine wS tfNwH ?_
 (repeat revert X); refine wE aEQ_t ?_; repeat intro X hX
 obtain ⟨I, hI⟩ : ∃ I : F → M → Prop, ∀ f m', I f m' = (∃ (k : Nat) (o1 : Own) (m2 : M), k ≤ L.length ∧ f 0 = .ep [.sl .no (E.map En.pv), .sl .no (ns.map No.pv)] ∧ f 3 = .ep n.cs ∧ f 4 = .bp m.nb 0 ∧ f 18 = .sl .no (L.map Va.pv) ∧ f 19 = pI L.length ∧ f 20 = pI k ∧ Toks m m2 ∧ m2.ext [some [.sl o1 ((L.take k).map Va.pv), .sl .full []]] = m') := ⟨_, fun _ _ => rfl⟩
 refine aLoop I (fun f m => L.length - numOf (f 20)) ?_ ?_
 ·rw [hI]; exact ⟨0, .full, m, by omega, rfl, rfl, rfl, rfl, rfl, rfl, .refl _, rfl⟩
 intro f m' hrel
 rw [hI] at hrel
 obtain ⟨k, o1, m2, hk, f0, f3, f4, f18, f19, f20, htk, rfl⟩ := hrel
 have hnb := htk.nb
 cases c1 : decide ((k : Int) < (L.length : Int)) with
 | true =>
  have hlt : k < L.length := by simpa using c1
  have g0 := getD_map Va.pv L k hlt
  have hi : IntKind.i64.wrap ((k : Int) + 1) = ((k + 1 : Nat) : Int) := by rw [wrap64 (by omega)]; omega
  have hme : numOf (f 20) = k := by rw [f20]; exact Int.toNat_natCast k
  have hVk := hV k hlt o1
  have hst : L.take (k + 1) = L.take k ++ [L[k]] := List.take_succ_eq_append_getElem hlt
  have hgb : (m2.ext [some [.sl o1 ((L.take k).map Va.pv), .sl .full []]]).get m.nb = some [.sl o1 ((L.take k).map Va.pv), .sl .full []] := by rw [← hnb]; exact ext_get (i := 0) rfl
  generalize L.take k = G at *
  generalize L[k] = v at *
  (repeat (first | refine aSeq fun X hX => ?_ | refine aSkip ?_ | (first | apply aReg | apply aIf); simp -implicitDefEqProofs only [↓slp, slb, ↓reduceIte, reduceCtorEq, jA, jB, jE, jF, tfNwH, f0, f4, f18, f19, f20, pI, c1, g0, hgb] | apply hX; clear hX X | apply And.intro; focus omega))
  refine callP (hVk _) (zn_ext htk) ?_
  rintro wv mw ⟨t, rfl, ht2, htt⟩
  have htk3 : Toks m ⟨m2.boxes, mw.toks⟩ := ⟨Nat.le_trans htk.nt (show m2.toks.length ≤ mw.toks.length from ht2.nt), by
   have h1 := ht2.toks
   have h2 := htk.toks
   have h3 : (m2.ext [some [.sl o1 (G.map Va.pv), .sl .full []]]).toks = m2.toks := rfl
   have h4 : (m2.ext [some [.sl o1 (G.map Va.pv), .sl .full []]]).nt = m2.toks.length := rfl
   rw [h3, h4] at h1
   rw [← h2, ← h1, List.take_take, Nat.min_eq_left (show m.nt ≤ m2.toks.length from htk.nt)], htk.boxes⟩
  have hmw : mw = (⟨m2.boxes, mw.toks⟩ : M).ext [some [.sl o1 (G.map Va.pv), .sl .full []]] := by
   have := ht2.boxes
   cases mw
   simp only at this
   subst this
   rfl
  have hnb3 := htk3.nb
  generalize hm3 : (⟨m2.boxes, mw.toks⟩ : M) = m3 at *
  rw [hmw]
  refine wS (And.intro tfNwH (And.intro hnb3 f4)) ?_
  (repeat (first | refine aReg ?_; simp -implicitDefEqProofs only [↓slp, slb, ↓reduceIte, jA, jF, f20, pI, hi] | apply hX; clear hX X))
  rw [hI]
  exact ⟨⟨k + 1, .tok t, m3, hlt, f0, f3, f4, f18, f19, rfl, htk3, by rw [hst]⟩, by omega⟩
 | false =>
  have hkk : k = L.length := by simp at c1; omega
  subst hkk
  rw [List.take_length]
  (repeat revert X); refine wE (And.intro tfNwH (And.intro f3 (And.intro f19 (And.intro f20 (And.intro @pI.eq_1 c1))))) ?_; repeat intro X hX
  have hct := fun (o : Own) (l : List Str) (s : Str) (m : M) => contains_any o l s m
  obtain ⟨J, hJ⟩ : ∃ J : F → M → Prop, ∀ f m', J f m' = (∃ (j : Nat) (oo : Own) (m3 : M), j ≤ n.outs.length ∧ f 0 = .ep [.sl .no (E.map En.pv), .sl .no (ns.map No.pv)] ∧ f 3 = .ep n.cs ∧ f 4 = .bp m.nb 0 ∧ f 30 = .sl .no (n.outs.map Va.pv) ∧ f 31 = pI n.outs.length ∧ f 32 = pI j ∧ Toks m m3 ∧ Mine m m3 oo 1 ∧ m3.ext [some [.sl o1 (L.map Va.pv), .sl oo (((n.outs.take j).map Va.name).map pS)]] = m') := ⟨_, fun _ _ => rfl⟩
  refine aLoop J (fun f m => n.outs.length - numOf (f 32)) ?_ ?_
  ·rw [hJ]; exact ⟨0, .full, m2, by omega, f0, f3, f4, rfl, rfl, rfl, htk, .full, rfl⟩
  clear f0 f3 f4 f18 f19 f20
  intro f m' hrel
  rw [hJ] at hrel
  obtain ⟨j, oo, m3, hj, f0, f3, f4, f30, f31, f32, htk3, hm3, rfl⟩ := hrel
  have hnb3 := htk3.nb
  cases c2 : decide ((j : Int) < (n.outs.length : Int)) with
  | true =>
   have hltj : j < n.outs.length := by simpa using c2
   have gj := getD_map Va.pv n.outs j hltj
   have hij : IntKind.i64.wrap ((j : Int) + 1) = ((j + 1 : Nat) : Int) := by rw [wrap64 (by omega)]; omega
   have hmej : numOf (f 32) = j := by rw [f32]; exact Int.toNat_natCast j
   have hst : (n.outs.take (j + 1)).map Va.name = (n.outs.take j).map Va.name ++ [n.outs[j].name] := by rw [List.take_succ_eq_append_getElem hltj, List.map_append]; rfl
   have hgl : ((n.outs.take j).map Va.name).length ≤ 2 ^ 29 := by rw [List.length_map, List.length_take]; omega
   generalize (n.outs.take j).map Va.name = A at *
   generalize n.outs[j] = v at *
   have hfr := hm3.free
   have hLa := str_one A
   have h1 : ∀ y ∈ [pS v.name], y.cells.length = 1 := str_one [v.name]
   have hmx2 : A.length + 1 ≤ maxLen := by unfold maxLen; omega
   (repeat (first | refine aSeq fun X hX => ?_ | refine aSkip ?_ | (first | apply aReg | apply aIf); simp -implicitDefEqProofs only [forall_eq, ↓slp, slb, ↓reduceIte, reduceCtorEq, jA, jB, jC, jE, jF, tfNwH, f4, f30, f31, f32, pI, c2, gj, hnb3, hij] | apply hX; clear hX X | apply And.intro; focus (first | omega | (repeat' apply And.intro) <;> first | omega | assumption)))
   rw [hJ]
   exact ⟨⟨j + 1, .tok m3.nt, (oo.use m3).fresh 1, hltj, f0, f3, f4, f30, f31, rfl, htk3.use hm3, Mine.new htk3 oo 1, by rw [hst, List.map_append]; rfl⟩, by omega⟩
  | false =>
   have hjj : j = n.outs.length := by simp at c2; omega
   subst hjj
   rw [List.take_length]
   have hBX := hB (m3.ext [some [.sl o1 (L.map Va.pv), .sl oo ((n.outs.map Va.name).map pS)]])
   have hgb : (m3.ext [some [.sl o1 (L.map Va.pv), .sl oo ((n.outs.map Va.name).map pS)]]).get m.nb = some [.sl o1 (L.map Va.pv), .sl oo ((n.outs.map Va.name).map pS)] := by rw [← hnb3]; exact ext_get (i := 0) rfl
   (repeat revert X); refine wE (And.intro tfNwH (And.intro f0 (And.intro f3 (And.intro f4 (And.intro f31 (And.intro f32 (And.intro @pI.eq_1 (And.intro c2 (And.intro hgb hnf))))))))) ?_; repeat intro X hX
   refine callPS hBX (by simp only [List.map_cons, List.map_nil, PV.settle, PV.settles, hnf]) (zn_ext htk3) ?_
   rintro wv mw ⟨r, rfl, hrl, hmw⟩
   subst hmw
   refine wS aEQ_t ?_
   (repeat revert X); refine wE (And.intro tfNwH f3) ?_; repeat intro X hX
   obtain ⟨J2, hJ2⟩ : ∃ J2 : F → M → Prop, ∀ f m', J2 f m' = (∃ (i : Nat), i ≤ n.outs.length ∧ f 9 = .sl .no (r.map pS) ∧ f 50 = .sl .no (n.outs.map Va.pv) ∧ f 51 = pI n.outs.length ∧ f 52 = pI i ∧ m3.ext [some [.sl o1 (L.map Va.pv), .sl oo ((n.outs.map Va.name).map pS)]] = m') := ⟨_, fun _ _ => rfl⟩
   refine aLoop J2 (fun f m => n.outs.length - numOf (f 52)) ?_ ?_
   ·rw [hJ2]; exact ⟨0, by omega, rfl, rfl, rfl, rfl, rfl⟩
   clear f0 f3 f4 f30 f31 f32
   intro f m' hrel
   rw [hJ2] at hrel
   obtain ⟨i, hil, f9, f50, f51, f52, rfl⟩ := hrel
   cases c3 : decide ((i : Int) < (n.outs.length : Int)) with
   | true =>
    have hlti : i < n.outs.length := by simpa using c3
    have gi := getD_map Va.pv n.outs i hlti
    have hii : IntKind.i64.wrap ((i : Int) + 1) = ((i + 1 : Nat) : Int) := by rw [wrap64 (by omega)]; omega
    have hmei : numOf (f 52) = i := by rw [f52]; exact Int.toNat_natCast i
    have hcn := hct .no r n.outs[i].name
    have hf51 := hf5 n.outs[i].line n.outs[i].col
    generalize n.outs[i] = v at *
    cases hin : hasS r v.name with
    | true =>
     (repeat (first | refine aSeq fun X hX => ?_ | refine aSkip ?_ | (first | apply aReg | apply aIf); simp -implicitDefEqProofs only [↓slp, slb, ↓reduceIte, reduceCtorEq, jA, jB, jE, jF, tfNwH, f9, f50, f51, f52, pI, c3, gi] | apply hX; clear hX X | apply And.intro; focus omega))
     refine callE (hcn _) ?_
     refine wS (And.intro @pB.eq_1 hin) ?_
     (repeat (first | refine aSkip ?_ | (first | apply aReg | apply aIf); simp -implicitDefEqProofs only [↓slp, slb, ↓reduceIte, jA, jF, f52, pI, hii] | apply hX; clear hX X))
     rw [hJ2]
     exact ⟨⟨i + 1, hlti, f9, f50, f51, rfl, rfl⟩, by omega⟩
    | false =>
     (repeat (first | refine aSeq fun X hX => ?_ | refine aSkip ?_ | (first | apply aReg | apply aIf); simp -implicitDefEqProofs only [↓slp, slb, ↓reduceIte, reduceCtorEq, jA, jB, jE, jF, tfNwH, f9, f50, f51, f52, pI, c3, gi] | apply hX; clear hX X | apply And.intro; focus omega))
     refine callE (hcn _) ?_
     refine wS (And.intro @pB.eq_1 hin) ?_
     (repeat revert X); refine wD (And.intro tfNwH (And.intro f52 @pI.eq_1)) ?_; repeat intro X hX
     exact callP (hf51 _) (zn_ext htk3) (fun v m' h => h.elim)
   | false =>
    (repeat revert X); refine wE (And.intro f51 (And.intro f52 (And.intro @pI.eq_1 c3))) ?_; repeat intro X hX
    refine wR Tryz.results24 ?_
    exact leave_toks htk3 rfl ⟨rfl, rfl⟩
set_option maxHeartbeats 8000000 in
theorem nenums_any (ns : List No) (E : List En) (hl : E.length ≤ 1000000) (hc : (E.flatMap En.ctors).length ≤ 1000000) (m : M) :
    ACallsZ Tryz.prog 21 [lkE E ns] m (unitP m) (ZN m) := by
 have hfe := fun (s : Str) (m : M) => findEn_any .no E s m
 have hct := fun (o : Own) (l : List Str) (s : Str) (m : M) => contains_any o l s m
 have hfl := fun (l c : Int) (m : M) => nfail_any 4 l c rfl m
 unfold lkE at *
 refine eZ [] Tryz.func21 ?_
 (repeat revert X); refine wE tfNwH ?_; repeat intro X hX
 obtain ⟨I, hI⟩ : ∃ I : F → M → Prop, ∀ f m', I f m' = (∃ (k : Nat) (o : Own) (S : List Str) (mm : M), k ≤ E.length ∧ S.length + ((E.drop k).flatMap En.ctors).length ≤ 1000000 ∧ f 0 = .ep [.sl .no (E.map En.pv), .sl .no (ns.map No.pv)] ∧ f 2 = .sl o (S.map pS) ∧ f 11 = .sl .no (E.map En.pv) ∧ f 12 = pI E.length ∧ f 13 = pI k ∧ Toks m mm ∧ Mine m mm o 1 ∧ mm = m') := ⟨_, fun _ _ => rfl⟩
 refine aLoop I (fun f m => E.length - numOf (f 13)) ?_ ?_
 ·rw [hI]; exact ⟨0, .full, [], m, by omega, by simpa using hc, rfl, rfl, rfl, rfl, rfl, .refl _, .full, rfl⟩
 intro f m' hrel
 rw [hI] at hrel
 obtain ⟨k, o, S, mm, hk, hSl, f0, f2, f11, f12, f13, htk, hmi, rfl⟩ := hrel
 cases c1 : decide ((k : Int) < (E.length : Int)) with
 | false =>
  have hkk : k = E.length := by simp at c1; omega
  subst hkk
  (repeat revert X); refine wE (And.intro f12 (And.intro f13 (And.intro @pI.eq_1 c1))) ?_; repeat intro X hX
  refine wR Tryz.results21 ?_
  exact leave_toks0 htk rfl ⟨rfl, rfl⟩
 | true =>
  have hlt : k < E.length := by simpa using c1
  have g0 := getD_map En.pv E k hlt
  have hi : IntKind.i64.wrap ((k : Int) + 1) = ((k + 1 : Nat) : Int) := by rw [wrap64 (by omega)]; omega
  have hme : numOf (f 13) = k := by rw [f13]; exact Int.toNat_natCast k
  rw [List.drop_eq_getElem_cons hlt] at hSl
  rw [List.flatMap_cons, List.length_append] at hSl
  have hfx := hfe E[k].name
  have hfl1 := hfl E[k].line E[k].col
  generalize E[k] = e at *
  (repeat (first | refine aSeq fun X hX => ?_ | refine aSkip ?_ | (first | apply aReg | apply aIf); simp -implicitDefEqProofs only [↓slp, slb, ↓reduceIte, reduceCtorEq, jA, jB, jE, jF, tfNwH, f11, f12, f13, pI, c1, g0] | apply hX; clear hX X | apply And.intro; focus omega))
  (repeat (refine aDrE ?_; simp -implicitDefEqProofs only [↓slp, slb, ↓reduceIte, reduceCtorEq, jA, jB, jE, tfNwH, f0]))
  refine callE (hfx _) ?_
  cases c2 : decide (findEn E e.name < (k : Int)) with
  | true =>
   refine wS (And.intro @pI.eq_1 c2) ?_
   (repeat revert X); refine wE tfNwH ?_; repeat intro X hX
   exact callP (hfl1 _) (zn_toks htk) (fun v m' h => h.elim)
  | false =>
   refine wS (And.intro @pI.eq_1 c2) ?_
   (repeat revert X); refine wE tfNwH ?_; repeat intro X hX
   obtain ⟨J, hJ⟩ : ∃ J : F → M → Prop, ∀ f m', J f m' = (∃ (j : Nat) (o : Own) (m2 : M), j ≤ e.ctors.length ∧ f 0 = .ep [.sl .no (E.map En.pv), .sl .no (ns.map No.pv)] ∧ f 2 = .sl o ((S ++ e.ctors.take j).map pS) ∧ f 4 = .ep e.cs ∧ f 11 = .sl .no (E.map En.pv) ∧ f 12 = pI E.length ∧ f 13 = pI k ∧ f 32 = .sl .no (e.ctors.map pS) ∧ f 33 = pI e.ctors.length ∧ f 34 = pI j ∧ Toks m m2 ∧ Mine m m2 o 1 ∧ m2 = m') := ⟨_, fun _ _ => rfl⟩
   refine aLoop J (fun f m => e.ctors.length - numOf (f 34)) ?_ ?_
   ·rw [hJ]; exact ⟨0, o, mm, by omega, f0, by rw [List.take_zero, List.append_nil]; exact f2, rfl, f11, f12, f13, rfl, rfl, rfl, htk, hmi, rfl⟩
   clear f0 f2 f11 f12 f13 htk hmi
   intro f m' hrel
   rw [hJ] at hrel
   obtain ⟨j, o, m2, hj, f0, f2, f4, f11, f12, f13, f32, f33, f34, htk, hmi, rfl⟩ := hrel
   cases c3 : decide ((j : Int) < (e.ctors.length : Int)) with
   | false =>
    have hjj : j = e.ctors.length := by simp at c3; omega
    subst hjj
    rw [List.take_length] at f2
    (repeat (first | refine aSeq fun X hX => ?_ | refine aExit ?_; try simp only [slx, ↓reduceIte, jA, reduceCtorEq] | (first | apply aReg | apply aIf); simp -implicitDefEqProofs only [↓slp, slb, ↓reduceIte, jA, f33, f34, f13, pI, c3, hi] | apply hX; clear hX X | clear hX X; apply hX; clear hX X))
    rw [hI]
    exact ⟨⟨k + 1, o, S ++ e.ctors, m2, hlt, by rw [List.length_append]; omega, f0, f2, f11, f12, rfl, htk, hmi, rfl⟩, by omega⟩
   | true =>
    have hltj : j < e.ctors.length := by simpa using c3
    have gj := getD_map pS e.ctors j hltj
    have hij : IntKind.i64.wrap ((j : Int) + 1) = ((j + 1 : Nat) : Int) := by rw [wrap64 (by omega)]; omega
    have hmej : numOf (f 34) = j := by rw [f34]; exact Int.toNat_natCast j
    have hst : S ++ e.ctors.take (j + 1) = (S ++ e.ctors.take j) ++ [e.ctors[j]] := by rw [List.take_succ_eq_append_getElem hltj, List.append_assoc]
    have hcx := hct o (S ++ e.ctors.take j) e.ctors[j]
    have hAl : (S ++ e.ctors.take j).length ≤ 1000000 := by rw [List.length_append, List.length_take]; omega
    generalize S ++ e.ctors.take j = A at *
    generalize hcj : e.ctors[j] = cc at *
    have hfr := hmi.free
    have hLa := str_one A
    have h1 : ∀ y ∈ [pS cc], y.cells.length = 1 := str_one [cc]
    have hmx2 : A.length + 1 ≤ maxLen := by unfold maxLen; omega
    (repeat (first | refine aSeq fun X hX => ?_ | refine aSkip ?_ | (first | apply aReg | apply aIf); simp -implicitDefEqProofs only [↓slp, slb, ↓reduceIte, reduceCtorEq, jA, jB, tfNwH, f2, f32, f33, f34, pI, c3, gj] | apply hX; clear hX X | apply And.intro; focus omega))
    refine callE (hcx _) ?_
    cases hh : hasS A cc with
    | true =>
     refine wS @pB.eq_1 ?_
     (repeat revert X); refine wE (And.intro tfNwH f4) ?_; repeat intro X hX
     exact callP (hfl1 _) (zn_toks htk) (fun v m' h => h.elim)
    | false =>
     refine wS @pB.eq_1 ?_
     (repeat (first | refine aSkip ?_ | (first | apply aReg | apply aIf); simp -implicitDefEqProofs only [forall_eq, ↓slp, slb, ↓reduceIte, jA, jB, jC, jE, tfNwH, f2, f34, pI, hij] | apply hX; clear hX X | apply And.intro; focus ((repeat' apply And.intro) <;> first | omega | assumption)))
     rw [hJ]
     exact ⟨⟨j + 1, .tok m2.nt, (o.use m2).fresh 1, hltj, f0, by rw [hst, List.map_append]; rfl, f4, f11, f12, f13, f32, f33, rfl, htk.use hmi, Mine.new htk o 1, rfl⟩, by omega⟩
end Go.Proofs.YthhhnfjcaicjnaaGreatDoor
