/-
 Texts that belong together: NmG, AbCv, NmN.
-/
-- halved
import Derived.Test.YteiaedmipkcfeaaDoorNmX
import Derived.Test.YteiaedmipkcfeaaDoorMkH
import Derived.Test.YteiaedmipkcfeaaDoorSlcX
/-
 names: blocks.
-/
set_option linter.unusedVariables false
set_option linter.unusedSimpArgs false
namespace Go.Proofs.YteiaedmipkcfeaaDoor
open Nat renaming reduceEqDiff → jA, reduceAdd → jB, reduceMul → jC, reduceLT → jD, reduceLeDiff → jE, reduceBEq → jF, reduceBNe → jG
open Int renaming reduceLE → jH, reduceLT → jI, reduceToNat → jJ, reduceEq → jK
open Go
set_option maxRecDepth 20000


theorem noV_take {E V : List Va} (hd : ((E ++ V).map Va.name).Nodup) {k : Nat} (h : k < V.length) : findVar (E ++ V.take k) V[k].name = -1 := by
 rcases findVar_spec (E ++ V.take k) V[k].name with ⟨h1, _⟩ | ⟨j, hj, h1, h2, _⟩
 ·exact h1
 ·exfalso
  have hE : (E ++ V)[E.length + k]'(by rw [List.length_append]; omega) = V[k] := by rw [List.getElem_append_right (by omega)]; simp
  have hj2 : j < E.length + k := by rw [List.length_append, List.length_take] at hj; omega
  have hx : (E ++ V.take k)[j] = (E ++ V)[j]'(by rw [List.length_append]; omega) := by
   by_cases hjE : j < E.length
   ·rw [List.getElem_append_left hjE, List.getElem_append_left hjE]
   ·rw [List.getElem_append_right (by omega), List.getElem_append_right (by omega), List.getElem_take]
  have hp := List.pairwise_iff_getElem.1 hd j (E.length + k) (by simp; omega) (by simp; omega) (by omega)
  rw [List.getElem_map, List.getElem_map, hE, ← hx] at hp
  exact hp h2
set_option maxHeartbeats 16000000 in
theorem blockN_step (ns : List No) (hns : NsN ns) {PB : List Va → List Str → List Va → List Qu → Prop} (hPB : ∀ E D V Q, PB E D V Q → BlkN ns E D V Q) (E : List Va) (D : List Str) (V : List Va) (Q : List Qu) (hb : NmBs ns PB E D V Q) : BlkN ns E D V Q := by
 intro O m x hDO hOE hx
 obtain ⟨hDl, hlen, hnd, hv, D', hQ, hDn', hDp⟩ := hb
 have hO : O.length ≤ 2 ^ 29 := by omega
 have hV := fun (k : Nat) (h : k < V.length) (O : List Str) (m : M) => varN_any ns (E := E ++ V.take k) (O := O) (v := V[k]) (by rw [List.length_append, List.length_take]; omega) (noV_take hnd h) (hv V[k] (List.getElem_mem h)).1 (hv V[k] (List.getElem_mem h)).2.1 m
 obtain ⟨d, hd, hd1, hd2⟩ : ∃ d : TD, tdat Tryd.prog 9 = some d ∧ d.sz = 1 ∧ d.by_ ≤ 100 := ⟨(tdat Tryd.prog 9).get (by kernel_rfl), (Option.some_get _).symm, by kernel_rfl, of_decide_eq_true (by kernel_rfl)⟩
 have hcl := fun (l : List Str) (hl : l.length ≤ 2 ^ 30) m => clone_74 .no (l.map pS) m d hd (by rw [hd1]; exact strN_one l) (by simp; unfold maxLen; omega) (by simp; have := Nat.mul_le_mul hl hd2; omega)
 rw [hd1] at hcl
 unfold lkP scN colC at *
 refine ACalls.enter (mu := [5]) ok_mix Tryd.func47 rfl (by kernel_rfl) (by kernel_rfl) (by simp only [List.length_cons, List.length_nil, Tryd.ntmps47]; omega) ?_
 (repeat (first | refine aSeq fun X hX => ?_ | apply aBlk | refine aSkip ?_ | (first | refine aExit ?_ | refine aRet ?_); try simp only [slx, ↓reduceIte, jA, reduceCtorEq] | (first | apply aReg | apply aIf); simp -implicitDefEqProofs only [↓slp, ↓reduceIte, reduceCtorEq, jA, jC, jE, jF, jH, Ya] | apply hX; clear hX X | clear hX X; apply hX; clear hX X | intro hlen; unfold maxLen at hlen | apply And.intro; · first | assumption | and_intros <;> first | omega | assumption))
 obtain ⟨I, hI⟩ : ∃ I : F → M → Prop, ∀ f m', I f m' = (∃ (k : Nat) (o : Own) (mm : M), k ≤ V.length ∧ f 0 = .ep [.sl .no [.ag [.v (.string sCol), .sl .no [pS sRed, pS sGreen, pS sBlue], .v (.int .i64 0), .v (.int .i64 0)]], .sl .no (ns.map No.pv)] ∧ f 3 = x ∧ f 5 = .bp m.nb 0 ∧ f 6 = .ep [.sl .no (V.map Va.pv), .sl .no (Q.map Qu.pv)] ∧ f 26 = .sl .no (V.map Va.pv) ∧ f 27 = pI V.length ∧ f 28 = pI k ∧ Toks m mm ∧ mm.ext [some [.sl .no ((E ++ V.take k).map Va.pv), .sl o ((O ++ (V.take k).map Va.name).map pS)]] = m') := ⟨_, fun _ _ => rfl⟩
 refine aLoop I (fun f m => V.length - numOf (f 28)) ?_ ?_
 ·rw [hI]
  refine ⟨0, .no, m, by omega, rfl, rfl, rfl, rfl, rfl, rfl, rfl, .refl _, ?_⟩
  simp only [List.take_zero, List.map_nil, List.append_nil]
 intro f m' hrel
 rw [hI] at hrel
 obtain ⟨k, o, mm, hk, f0, f3, f5, f6, f26, f27, f28, htk, rfl⟩ := hrel
 have hnb := htk.nb
 cases c1 : decide ((k : Int) < (V.length : Int)) with
 | true =>
  have hlt : k < V.length := by simpa using c1
  have g0 := getD_map Va.pv V k hlt
  have hi : IntKind.i64.wrap ((k : Int) + 1) = ((k + 1 : Nat) : Int) := by rw [wrap64 (by omega)]; omega
  have hme : numOf (f 28) = k := by rw [f28]; exact Int.toNat_natCast k
  have hVk := hV k hlt
  have hst : E ++ V.take (k + 1) = E ++ V.take k ++ [V[k]] := by rw [List.take_succ_eq_append_getElem hlt, List.append_assoc]
  have hso : O ++ (V.take (k + 1)).map Va.name = (O ++ (V.take k).map Va.name) ++ [V[k].name] := by rw [List.take_succ_eq_append_getElem hlt, List.map_append, List.append_assoc]; rfl
  have hol : (O ++ (V.take k).map Va.name).length ≤ 2 ^ 30 := by rw [List.length_append, List.length_map, List.length_take]; omega
  generalize hL : O ++ (V.take k).map Va.name = L at *
  generalize hG : E ++ V.take k = G at *
  have hc1 := hcl L hol
  have hVL := hVk L
  generalize V[k] = v at *
  (repeat (first | refine aSeq fun X hX => ?_ | apply aBlk | refine aSkip ?_ | (first | refine aExit ?_ | refine aRet ?_); try simp only [slx, ↓reduceIte, jA, reduceCtorEq] | (first | apply aReg | apply aIf); simp -implicitDefEqProofs only [↓slp, ↓reduceIte, reduceCtorEq, jA, jC, jE, jF, jH, Ya, f0, f3, f5, f6, f26, f27, f28, pI, c1, g0, hnb] | apply hX; clear hX X | clear hX X; apply hX; clear hX X | intro hlen; unfold maxLen at hlen | apply And.intro; · first | assumption | and_intros <;> first | omega | assumption))
  refine callMS (hVL _) (by simp only [List.map_cons, List.map_nil, PV.settle, PV.settles, Va.settle_pv]; rfl) ?_
  rintro w mw ⟨rfl, rfl⟩
  have t1 : Toks m (mm.fresh 1) := htk.use (o := .full) (s := 1) (s' := 1) .full
  have m1 : Mine m (mm.fresh 1) (.tok mm.nt) 1 := Mine.new (o := .full) htk 1
  have hal := m1.free
  have t2 := t1.use (s := 1) m1
  have hmx : L.length + 1 ≤ maxLen := by unfold maxLen; omega
  have hL1 := strN_one L
  simp -implicitDefEqProofs only [↓slp, ↓reduceIte, reduceCtorEq, jA, jC, jE, jF, jH, Ya, hnb, f5]
  (repeat (first | refine aSeq fun X hX => ?_ | apply aBlk | refine aSkip ?_ | (first | refine aExit ?_ | refine aRet ?_); try simp only [slx, ↓reduceIte, jA, reduceCtorEq] | (first | apply aReg | apply aIf); simp -implicitDefEqProofs only [↓slp, ↓reduceIte, reduceCtorEq, jA, jC, jE, jF, jH, Ya, hnb, f5] | apply hX; clear hX X | clear hX X; apply hX; clear hX X | intro hlen; unfold maxLen at hlen | apply And.intro; · first | assumption | and_intros <;> first | omega | assumption))
  refine aDrwE (isB mm [some [.sl .no ((G ++ [v]).map Va.pv), .sl .no (L.map pS)]]) (hne := List.cons_ne_nil _ _) rfl (by kernel_rfl) (by kernel_rfl) ⟨mm.toks, rfl⟩ ?_
  simp -implicitDefEqProofs only [↓slp, ↓reduceIte, reduceCtorEq, jA, jC, jE, jF, jH, Ya, hnb, f5, isB_all, bt_nb, forall_const, List.dropLast_cons_cons, List.dropLast_singleton, List.getLast_cons_cons, List.getLast_singleton, List.set_cons_succ, List.set_cons_zero, List.getElem?_cons_succ, List.getElem?_cons_zero]
  refine callM (hc1 _) ?_
  rintro w mw ⟨rfl, rfl⟩
  refine ⟨⟨mm.toks ++ [some 1], rfl⟩, ?_⟩
  simp -implicitDefEqProofs only [↓slp, ↓reduceIte, reduceCtorEq, jA, jC, jE, jF, jH, Ya, hnb, f5, isB_all, bt_nb, forall_const, List.dropLast_cons_cons, List.dropLast_singleton, List.getLast_cons_cons, List.getLast_singleton, List.set_cons_succ, List.set_cons_zero, List.getElem?_cons_succ, List.getElem?_cons_zero]
  refine ⟨⟨hal, hL1, hmx, by omega⟩, ⟨_, rfl⟩, ?_⟩
  (repeat (first | refine aSeq fun X hX => ?_ | apply aBlk | refine aSkip ?_ | (first | refine aExit ?_ | refine aRet ?_); try simp only [slx, ↓reduceIte, jA, reduceCtorEq] | (first | apply aReg | apply aIf); simp -implicitDefEqProofs only [↓slp, ↓reduceIte, reduceCtorEq, jA, jC, jE, jF, jH, Ya, f28, pI, hi, hnb, f5, List.set_cons_succ, List.set_cons_zero] | apply hX; clear hX X | clear hX X; apply hX; clear hX X | intro hlen; unfold maxLen at hlen | apply And.intro; · first | assumption | and_intros <;> first | omega | assumption))
  rw [hI]
  exact ⟨⟨k + 1, .tok (mm.fresh 1).nt, _, hlt, f0, f3, f5, f6, f26, f27, rfl, t2, by rw [hst, hso, List.map_append, List.map_append]; rfl⟩, by omega⟩
 | false =>
  have hk' : k = V.length := by simp at c1; omega
  subst hk'
  rw [List.take_length]
  have hctn := fun (c : Str) (hc : c ∈ cols) (m : M) => ctorN_any ns hc m
  obtain ⟨G, hG⟩ : ∃ G, E ++ V = G := ⟨_, rfl⟩
  obtain ⟨L, hL⟩ : ∃ L, O ++ V.map Va.name = L := ⟨_, rfl⟩
  have hLG : L.length ≤ G.length := by rw [← hG, ← hL, List.length_append, List.length_append, List.length_map]; omega
  rw [hG] at hnd hv hQ hx
  rw [hG, hL]
  have hfv := fun (s : Str) (m : M) => findVar_any .no G s m
  unfold lkP colC at hctn
  obtain ⟨ms, hms⟩ : ∃ ms, mm.ext [some [.sl .no (G.map Va.pv), .sl o (L.map pS)]] = ms := ⟨_, rfl⟩
  have hgm : ms.get m.nb = some [.sl .no (G.map Va.pv), .sl o (L.map pS)] := by rw [← hms, ← hnb]; exact ext_get (i := 0) rfl
  rw [hms]
  (repeat (first | refine aSeq fun X hX => ?_ | apply aBlk | refine aSkip ?_ | (first | refine aExit ?_ | refine aRet ?_); try simp only [slx, ↓reduceIte, jA, reduceCtorEq] | (first | apply aReg | apply aIf); simp -implicitDefEqProofs only [↓slp, ↓reduceIte, reduceCtorEq, jA, jC, jE, jF, jH, Ya, f0, f3, f5, f6, f26, f27, f28, pI, c1] | apply hX; clear hX X | clear hX X; apply hX; clear hX X | intro hlen; unfold maxLen at hlen | apply And.intro; · first | assumption | and_intros <;> first | omega | assumption))
  obtain ⟨J, hJ⟩ : ∃ J : F → M → Prop, ∀ f m', J f m' = (∃ k : Nat, k ≤ V.length ∧ f 0 = .ep [.sl .no [.ag [.v (.string sCol), .sl .no [pS sRed, pS sGreen, pS sBlue], .v (.int .i64 0), .v (.int .i64 0)]], .sl .no (ns.map No.pv)] ∧ f 3 = x ∧ f 5 = .bp m.nb 0 ∧ f 6 = .ep [.sl .no (V.map Va.pv), .sl .no (Q.map Qu.pv)] ∧ f 46 = .sl .no (V.map Va.pv) ∧ f 47 = pI V.length ∧ f 48 = pI k ∧ ms = m') := ⟨_, fun _ _ => rfl⟩
  refine aLoop J (fun f m => V.length - numOf (f 48)) ?_ ?_
  ·rw [hJ]; exact ⟨0, by omega, f0, f3, f5, f6, rfl, rfl, rfl, rfl⟩
  clear f0 f3 f5 f6 f26 f27 f28 hI I
  intro f m' hrel
  rw [hJ] at hrel
  obtain ⟨k, hk, f0, f3, f5, f6, f46, f47, f48, rfl⟩ := hrel
  cases c2 : decide ((k : Int) < (V.length : Int)) with
  | true =>
   have hlt : k < V.length := by simpa using c2
   have g0 := getD_map Va.pv V k hlt
   have hi : IntKind.i64.wrap ((k : Int) + 1) = ((k + 1 : Nat) : Int) := by rw [wrap64 (by omega)]; omega
   have hme : numOf (f 48) = k := by rw [f48]; exact Int.toNat_natCast k
   have hck := (hv V[k] (List.getElem_mem hlt)).2.2
   generalize V[k] = v at *
   (repeat (first | refine aSeq fun X hX => ?_ | apply aBlk | refine aSkip ?_ | (first | refine aExit ?_ | refine aRet ?_); try simp only [slx, ↓reduceIte, jA, reduceCtorEq] | (first | apply aReg | apply aIf); simp -implicitDefEqProofs only [↓slp, ↓reduceIte, reduceCtorEq, jA, jC, jE, jF, jH, Ya, f0, f3, f5, f6, f46, f47, f48, pI, c2, g0] | apply hX; clear hX X | clear hX X; apply hX; clear hX X | intro hlen; unfold maxLen at hlen | apply And.intro; · first | assumption | and_intros <;> first | omega | assumption))
   obtain ⟨I2, hI2⟩ : ∃ I2 : F → M → Prop, ∀ f m', I2 f m' = (∃ j : Nat, j ≤ v.clock.length ∧ f 0 = .ep [.sl .no [.ag [.v (.string sCol), .sl .no [pS sRed, pS sGreen, pS sBlue], .v (.int .i64 0), .v (.int .i64 0)]], .sl .no (ns.map No.pv)] ∧ f 3 = x ∧ f 5 = .bp m.nb 0 ∧ f 6 = .ep [.sl .no (V.map Va.pv), .sl .no (Q.map Qu.pv)] ∧ f 12 = .ep v.cs ∧ f 46 = .sl .no (V.map Va.pv) ∧ f 47 = pI V.length ∧ f 48 = pI k ∧ f 53 = .sl .no (v.clock.map On.pv) ∧ f 54 = pI v.clock.length ∧ f 55 = pI j ∧ ms = m') := ⟨_, fun _ _ => rfl⟩
   refine aLoop I2 (fun f m => v.clock.length - numOf (f 55)) ?_ ?_
   ·rw [hI2]; exact ⟨0, by omega, f0, f3, f5, f6, rfl, f46, f47, f48, rfl, rfl, rfl, rfl⟩
   clear f0 f3 f5 f6 f46 f47 f48
   intro f m' hrel
   rw [hI2] at hrel
   obtain ⟨j, hj, f0, f3, f5, f6, f12, f46, f47, f48, f53, f54, f55, rfl⟩ := hrel
   cases c3 : decide ((j : Int) < (v.clock.length : Int)) with
   | true =>
    have hltj : j < v.clock.length := by simpa using c3
    have gj := getD_map On.pv v.clock j hltj
    have hij : IntKind.i64.wrap ((j : Int) + 1) = ((j + 1 : Nat) : Int) := by rw [wrap64 (by omega)]; omega
    have hmej : numOf (f 55) = j := by rw [f55]; exact Int.toNat_natCast j
    obtain ⟨⟨z, hz, hfz⟩, hcc⟩ := hck v.clock[j] (List.getElem_mem hltj)
    have hfx := hfv v.clock[j].var
    rw [hfz] at hfx
    have dz : decide ((z : Int) < 0) = false := by simp
    have hc2 := hctn v.clock[j].ctor hcc
    (repeat (first | refine aSeq fun X hX => ?_ | apply aBlk | refine aSkip ?_ | (first | refine aExit ?_ | refine aRet ?_); try simp only [slx, ↓reduceIte, jA, reduceCtorEq] | (first | apply aReg | apply aIf); simp -implicitDefEqProofs only [↓slp, ↓reduceIte, reduceCtorEq, jA, jC, jE, jF, jH, Ya, f0, f5, f12, f53, f54, f55, pI, c3, gj, hgm, On.pv.eq_1] | apply hX; clear hX X | clear hX X; apply hX; clear hX X | intro hlen; unfold maxLen at hlen | apply And.intro; · first | assumption | and_intros <;> first | omega | assumption))
    (repeat (first | refine aSeq fun X hX => ?_ | apply aBlk | refine aSkip ?_ | (first | refine aExit ?_ | refine aRet ?_); try simp only [slx, ↓reduceIte, jA, reduceCtorEq] | (first | apply aReg | refine aDrE ?_ | apply aIf); simp -implicitDefEqProofs only [↓slp, ↓reduceIte, reduceCtorEq, jA, jC, jE, jF, jH, Ya, f0, f5, f12, hgm, dz] | apply hX; clear hX X | clear hX X; apply hX; clear hX X | intro hlen; unfold maxLen at hlen | apply And.intro; · first | assumption | and_intros <;> first | omega | assumption))
    refine callE (hfx _) ?_
    simp -implicitDefEqProofs only [↓slp, ↓reduceIte, reduceCtorEq, jA, jC, jE, jF, jH, Ya, f0, f5, f12, hgm, dz, pI]
    (repeat (first | refine aSeq fun X hX => ?_ | apply aBlk | refine aSkip ?_ | (first | refine aExit ?_ | refine aRet ?_); try simp only [slx, ↓reduceIte, jA, reduceCtorEq] | (first | apply aReg | refine aDrE ?_ | apply aIf); simp -implicitDefEqProofs only [↓slp, ↓reduceIte, reduceCtorEq, jA, jC, jE, jF, jH, Ya, f0, f5, f12, hgm, dz] | apply hX; clear hX X | clear hX X; apply hX; clear hX X | intro hlen; unfold maxLen at hlen | apply And.intro; · first | assumption | and_intros <;> first | omega | assumption))
    refine callE (hc2 _) ?_
    simp -implicitDefEqProofs only [↓slp, ↓reduceIte, reduceCtorEq, jA, jC, jE, jF, jH, Ya, pB]
    (repeat (first | refine aSeq fun X hX => ?_ | apply aBlk | refine aSkip ?_ | (first | refine aExit ?_ | refine aRet ?_); try simp only [slx, ↓reduceIte, jA, reduceCtorEq] | (first | apply aReg | refine aDrE ?_ | apply aIf); simp -implicitDefEqProofs only [↓slp, ↓reduceIte, reduceCtorEq, jA, jC, jE, jF, jH, Ya, f55, pI, hij] | apply hX; clear hX X | clear hX X; apply hX; clear hX X | intro hlen; unfold maxLen at hlen | apply And.intro; · first | assumption | and_intros <;> first | omega | assumption))
    rw [hI2]
    exact ⟨⟨j + 1, hltj, f0, f3, f5, f6, f12, f46, f47, f48, f53, f54, rfl, rfl⟩, by omega⟩
   | false =>
    (repeat (first | refine aSeq fun X hX => ?_ | apply aBlk | refine aSkip ?_ | (first | refine aExit ?_ | refine aRet ?_); try simp only [slx, ↓reduceIte, jA, reduceCtorEq] | (first | apply aReg | apply aIf); simp -implicitDefEqProofs only [↓slp, ↓reduceIte, reduceCtorEq, jA, jC, jE, jF, jH, Ya, f12, f53, f54, f55, f48, hi, pI, c3] | apply hX; clear hX X | clear hX X; apply hX; clear hX X | intro hlen; unfold maxLen at hlen | apply And.intro; · first | assumption | and_intros <;> first | omega | assumption))
    rw [hJ]
    exact ⟨⟨k + 1, hlt, f0, f3, f5, f6, f46, f47, rfl, rfl⟩, by omega⟩
  | false =>
   subst hms
   have hBX : ∀ m2 : M, Toks m m2 → (m2.ext [some [.sl .no (G.map Va.pv), .sl o (L.map pS)]]).get m.nb = some [.sl .no (G.map Va.pv), .sl o (L.map pS)] := fun m2 h => by rw [← h.nb]; exact ext_get (i := 0) rfl
   (repeat (first | refine aSeq fun X hX => ?_ | apply aBlk | refine aSkip ?_ | (first | refine aExit ?_ | refine aRet ?_); try simp only [slx, ↓reduceIte, jA, reduceCtorEq] | (first | apply aReg | apply aIf); simp -implicitDefEqProofs only [↓slp, ↓reduceIte, reduceCtorEq, jA, jC, jE, jF, jH, Ya, f0, f3, f5, f6, f46, f47, f48, pI, c2] | apply hX; clear hX X | clear hX X; apply hX; clear hX X | intro hlen; unfold maxLen at hlen | apply And.intro; · first | assumption | and_intros <;> first | omega | assumption))
   obtain ⟨K, hK⟩ : ∃ K : F → M → Prop, ∀ f m', K f m' = (∃ (i : Nat) (dn Dd Dr : List Str) (od : Own) (m2 : M), i ≤ Q.length ∧ f 0 = .ep [.sl .no [.ag [.v (.string sCol), .sl .no [pS sRed, pS sGreen, pS sBlue], .v (.int .i64 0), .v (.int .i64 0)]], .sl .no (ns.map No.pv)] ∧ f 3 = x ∧ f 5 = .bp m.nb 0 ∧ f 6 = .ep [.sl .no (V.map Va.pv), .sl .no (Q.map Qu.pv)] ∧ f 15 = .sl od (dn.map pS) ∧ f 78 = .sl .no (Q.map Qu.pv) ∧ f 79 = pI Q.length ∧ f 80 = pI i ∧ D' = Dd ++ Dr ∧ dn.Perm Dd ∧ NmQs ns PB G (Q.drop i) Dr ∧ Toks m m2 ∧ Mine m m2 od 1 ∧ m2.ext [some [.sl .no (G.map Va.pv), .sl o (L.map pS)]] = m') := ⟨_, fun _ _ => rfl⟩
   refine aLoop K (fun f m => Q.length - numOf (f 80)) ?_ ?_
   ·rw [hK]; exact ⟨0, [], [], D', .full, mm, by omega, f0, f3, f5, f6, rfl, rfl, rfl, rfl, rfl, .refl _, hQ, htk, .full, rfl⟩
   clear f0 f3 f5 f6 f46 f47 f48
   intro f m' hrel
   rw [hK] at hrel
   obtain ⟨i, dn, Dd, Dr, od, m2, hil, f0, f3, f5, f6, f15, f78, f79, f80, hDe, hdn, hqs, htk2, hmd, rfl⟩ := hrel
   have hg2 := hBX m2 htk2
   cases c3 : decide ((i : Int) < (Q.length : Int)) with
   | true =>
    have hlti : i < Q.length := by simpa using c3
    have g0 := getD_map Qu.pv Q i hlti
    have hii : IntKind.i64.wrap ((i : Int) + 1) = ((i + 1 : Nat) : Int) := by rw [wrap64 (by omega)]; omega
    have hmei : numOf (f 80) = i := by rw [f80]; exact Int.toNat_natCast i
    rw [List.drop_eq_getElem_cons hlti] at hqs
    obtain ⟨D1, D2, he, hn1, hl1, hq, hrest⟩ := hqs
    have hsub : ∀ z ∈ D1, z ∈ L := fun z hz => by
     have : z ∈ D' := by rw [hDe, he]; exact List.mem_append_right _ (List.mem_append_left _ hz)
     have := hDp.mem_iff.1 this
     rw [← hL]
     rcases List.mem_append.1 this with h | h
     ·exact List.mem_append_right _ h
     ·exact List.mem_append_left _ (hDO z h)
    have hqc := eqN_any ns hns hPB hq hsub hLG hl1 hn1
    unfold lkP scN colC at hqc
    generalize Q[i] = q at *
    (repeat (first | refine aSeq fun X hX => ?_ | apply aBlk | refine aSkip ?_ | (first | refine aExit ?_ | refine aRet ?_); try simp only [slx, ↓reduceIte, jA, reduceCtorEq] | (first | apply aReg | apply aIf); simp -implicitDefEqProofs only [↓slp, ↓reduceIte, reduceCtorEq, jA, jC, jE, jF, jH, Ya, f0, f5, f78, f79, f80, pI, c3, g0, hg2] | apply hX; clear hX X | clear hX X; apply hX; clear hX X | intro hlen; unfold maxLen at hlen | apply And.intro; · first | assumption | and_intros <;> first | omega | assumption))
    refine callMS (hqc _) (by simp only [List.map_cons, List.map_nil, PV.settle, PV.settles, Qu.settle_pv]; rw [Qu.pv_eq]; rfl) ?_
    rintro v mc ⟨r, rfl, hrp, hrl, hmc⟩
    subst hmc
    simp -implicitDefEqProofs only [↓slp, ↓reduceIte, reduceCtorEq, jA, jC, jE, jF, jH, Ya]
    (repeat (first | refine aSeq fun X hX => ?_ | apply aBlk | refine aSkip ?_ | (first | refine aExit ?_ | refine aRet ?_); try simp only [slx, ↓reduceIte, jA, reduceCtorEq] | (first | apply aReg | apply aIf); simp -implicitDefEqProofs only [↓slp, ↓reduceIte, reduceCtorEq, jA, jC, jE, jF, jH, Ya] | apply hX; clear hX X | clear hX X; apply hX; clear hX X | intro hlen; unfold maxLen at hlen | apply And.intro; · first | assumption | and_intros <;> first | omega | assumption))
    have hsub2 : (Dd ++ D1).Nodup := (by rw [hDe, he, ← List.append_assoc] at hDn'; exact (List.nodup_append.1 hDn').1)
    have hrn : (dn ++ r).Nodup := (hdn.append hrp).nodup_iff.2 hsub2
    have hrlen : r.length ≤ 100 := by rw [hrp.length_eq]; exact hl1
    have hdl : dn.length ≤ 2 ^ 29 + 100 := by
     have h1 := hDp.length_eq
     rw [hDe, List.length_append, List.length_append, List.length_map] at h1
     rw [hdn.length_eq]; omega
    have hrL : ∀ z ∈ r, z ∈ L := fun z hz => hsub z (hrp.mem_iff.1 hz)
    have hct := fun (o : Own) (l : List Str) (s : Str) (m : M) => contains_any o l s m
    obtain ⟨J2, hJ2⟩ : ∃ J2 : F → M → Prop, ∀ f m', J2 f m' = (∃ (j : Nat) (o3 : Own) (m3 : M), j ≤ r.length ∧ f 0 = .ep [.sl .no [.ag [.v (.string sCol), .sl .no [pS sRed, pS sGreen, pS sBlue], .v (.int .i64 0), .v (.int .i64 0)]], .sl .no (ns.map No.pv)] ∧ f 3 = x ∧ f 5 = .bp m.nb 0 ∧ f 6 = .ep [.sl .no (V.map Va.pv), .sl .no (Q.map Qu.pv)] ∧ f 15 = .sl o3 ((dn ++ r.take j).map pS) ∧ f 17 = .ep q.cs ∧ f 78 = .sl .no (Q.map Qu.pv) ∧ f 79 = pI Q.length ∧ f 80 = pI i ∧ f 87 = .sl .no (r.map pS) ∧ f 88 = pI r.length ∧ f 89 = pI j ∧ Toks m m3 ∧ Mine m m3 o3 1 ∧ m3.ext [some [.sl .no (G.map Va.pv), .sl o (L.map pS)]] = m') := ⟨_, fun _ _ => rfl⟩
    refine aLoop J2 (fun f m => r.length - numOf (f 89)) ?_ ?_
    ·rw [hJ2]; exact ⟨0, od, m2, by omega, f0, f3, f5, f6, by rw [List.take_zero, List.append_nil]; exact f15, rfl, f78, f79, f80, rfl, rfl, rfl, htk2, hmd, rfl⟩
    clear f0 f3 f5 f6 f15 f78 f79 f80 hg2
    intro f m' hrel
    rw [hJ2] at hrel
    obtain ⟨j, o3, m3, hj, f0, f3, f5, f6, f15, f17, f78, f79, f80, f87, f88, f89, htk3, hm3, rfl⟩ := hrel
    have hg3 := hBX m3 htk3
    cases c4 : decide ((j : Int) < (r.length : Int)) with
    | true =>
     have hltj : j < r.length := by simpa using c4
     have gj := getD_map pS r j hltj
     have hij : IntKind.i64.wrap ((j : Int) + 1) = ((j + 1 : Nat) : Int) := by rw [wrap64 (by omega)]; omega
     have hmej : numOf (f 89) = j := by rw [f89]; exact Int.toNat_natCast j
     have hx1 : hasS (dn ++ r.take j) r[j] = false := hasS_no (by
      have h1 : ((dn ++ r.take j) ++ [r[j]]).Sublist (dn ++ r) := by
       rw [List.append_assoc, ← List.take_succ_eq_append_getElem hltj]
       exact List.Sublist.append_left (List.take_sublist _ _) _
      exact fun hz => (List.nodup_append.1 (h1.nodup hrn)).2.2 _ hz _ (by simp) rfl)
     have hx3 : hasS L r[j] = true := (hasS_iff _ _).2 (hrL _ (List.getElem_mem hltj))
     have hmin : (if (q.lhs.length : Int) < (j : Int) then (q.lhs.length : Int) else (j : Int)) = ((min j q.lhs.length : Nat) : Int) := by split <;> omega
     have hx2 : hasS (q.lhs.take (min j q.lhs.length)) r[j] = false := hasS_no (by
      rcases hrl with h | h
      ·rw [← h, Nat.min_eq_left hj]
       exact fun hz => by
        have := (hasS_iff r[j] (dn ++ r.take j)).2 (List.mem_append_right _ hz)
        rw [hx1] at this; cases this
      ·rw [h]; simp)
     have hca := hct o3 (dn ++ r.take j) r[j]
     have hcb := hct .no (q.lhs.take (min j q.lhs.length)) r[j]
     have hcc := hct o L r[j]
     rw [hx1] at hca
     rw [hx2, List.map_take] at hcb
     have hLq := strN_one q.lhs
     rw [hx3] at hcc
     have hfr := hm3.free
     have hLa := strN_one (dn ++ r.take j)
     have h1 : ∀ y ∈ [pS r[j]], y.cells.length = 1 := strN_one [r[j]]
     have hla : (dn ++ r.take j).length ≤ 2 ^ 29 + 200 := by rw [List.length_append, List.length_take]; omega
     have hmx2 : (dn ++ r.take j).length + 1 ≤ maxLen := by unfold maxLen; omega
     (repeat (first | refine aSeq fun X hX => ?_ | apply aBlk | refine aSkip ?_ | (first | refine aExit ?_ | refine aRet ?_); try simp only [slx, ↓reduceIte, jA, reduceCtorEq] | (first | apply aReg | apply aIf); simp -implicitDefEqProofs only [↓slp, ↓reduceIte, reduceCtorEq, jA, jC, jE, jF, jH, Ya, f0, f5, f6, f15, f17, f87, f88, f89, pI, c4, gj, hg3] | apply hX; clear hX X | clear hX X; apply hX; clear hX X | intro hlen; unfold maxLen at hlen | apply And.intro; · first | assumption | and_intros <;> first | omega | assumption))
     refine callE (hca _) ?_
     simp -implicitDefEqProofs only [↓slp, ↓reduceIte, reduceCtorEq, jA, jC, jE, jF, jH, Ya, pB, f15, f17, hmin]
     (repeat (first | refine aSeq fun X hX => ?_ | apply aBlk | refine aSkip ?_ | (first | refine aExit ?_ | refine aRet ?_); try simp only [slx, ↓reduceIte, jA, reduceCtorEq] | (first | apply aReg | refine aDrE ?_ | apply aIf); simp -implicitDefEqProofs only [↓slp, ↓reduceIte, reduceCtorEq, jA, jC, jE, jF, jH, Ya, pB, f15, f17, hmin] | apply hX; clear hX X | clear hX X; apply hX; clear hX X | intro hlen; unfold maxLen at hlen | apply And.intro; · first | assumption | and_intros <;> first | omega | assumption))
     refine ⟨⟨by omega, _, rfl, hLq⟩, ?_⟩
     refine callE (hcb _) ?_
     simp -implicitDefEqProofs only [↓slp, ↓reduceIte, reduceCtorEq, jA, jC, jE, jF, jH, Ya, pB]
     (repeat (first | refine aSeq fun X hX => ?_ | apply aBlk | refine aSkip ?_ | (first | refine aExit ?_ | refine aRet ?_); try simp only [slx, ↓reduceIte, jA, reduceCtorEq] | (first | apply aReg | apply aIf); simp -implicitDefEqProofs only [↓slp, ↓reduceIte, reduceCtorEq, jA, jC, jE, jF, jH, Ya, pB, f5, hg3] | apply hX; clear hX X | clear hX X; apply hX; clear hX X | intro hlen; unfold maxLen at hlen | apply And.intro; · first | assumption | and_intros <;> first | omega | assumption))
     refine callE (hcc _) ?_
     simp -implicitDefEqProofs only [↓slp, ↓reduceIte, reduceCtorEq, jA, jC, jE, jF, jH, Ya, pB]
     (repeat (first | refine aSeq fun X hX => ?_ | apply aBlk | refine aSkip ?_ | (first | refine aExit ?_ | refine aRet ?_); try simp only [slx, ↓reduceIte, jA, reduceCtorEq] | (first | apply aReg | apply aIf); simp -implicitDefEqProofs only [↓slp, ↓reduceIte, reduceCtorEq, jA, jC, jE, jF, jH, Ya, pB, f5, f15, f89, hij] | apply hX; clear hX X | clear hX X; apply hX; clear hX X | intro hlen; unfold maxLen at hlen | apply And.intro; · first | assumption | and_intros <;> first | omega | assumption))
     rw [hJ2]
     exact ⟨⟨j + 1, .tok (m3.ext [some [.sl .no (G.map Va.pv), .sl o (L.map pS)]]).nt, (o3.use m3).fresh 1, hltj, f0, f3, f5, f6, by rw [List.take_succ_eq_append_getElem hltj, ← List.append_assoc]; exact congrArg (PV.sl _) (List.map_append (f := pS) (l₁ := dn ++ List.take j r) (l₂ := [r[j]])).symm, f17, f78, f79, f80, f87, f88, rfl, htk3.use hm3, Mine.new htk3 o3 1, rfl⟩, by omega⟩
    | false =>
     have hjj : j = r.length := by simp at c4; omega
     subst hjj
     rw [List.take_length] at f15
     (repeat (first | refine aSeq fun X hX => ?_ | apply aBlk | refine aSkip ?_ | (first | refine aExit ?_ | refine aRet ?_); try simp only [slx, ↓reduceIte, jA, reduceCtorEq] | (first | apply aReg | apply aIf); simp -implicitDefEqProofs only [↓slp, ↓reduceIte, reduceCtorEq, jA, jC, jE, jF, jH, Ya, f3, f80, hii, f87, f88, f89, pI, c4] | apply hX; clear hX X | clear hX X; apply hX; clear hX X | intro hlen; unfold maxLen at hlen | apply And.intro; · first | assumption | and_intros <;> first | omega | assumption))
     rw [hK]
     exact ⟨⟨i + 1, dn ++ r, Dd ++ D1, D2, o3, m3, hlti, f0, f3, f5, f6, f15, f78, f79, rfl, by rw [hDe, he, List.append_assoc], hdn.append hrp, hrest, htk3, hm3, rfl⟩, by omega⟩
   | false =>
    have hii : i = Q.length := by simp at c3; omega
    subst hii
    rw [List.drop_length] at hqs
    have hDr : Dr = [] := hqs
    subst hDr
    rw [List.append_nil] at hDe
    subst hDe
    have hdD : dn.Perm (V.map Va.name ++ D) := hdn.trans hDp
    have hdl : dn.length ≤ 2 ^ 29 + 100 := by
     have h1 := hdD.length_eq
     rw [List.length_append, List.length_map] at h1
     omega
    have hct := fun (o : Own) (l : List Str) (s : Str) (m : M) => contains_any o l s m
    have hfV := fun (s : Str) (m : M) => findVar_any .no V s m
    have hcl2 := fun q a h m => cloN_any ns G L q a h m
    unfold lkP scN colC at hcl2
    have hnf : ofV Value.nilFunc = .v .nilFunc := rfl
    obtain ⟨I2, hI2⟩ : ∃ I2 : F → M → Prop, ∀ f m', I2 f m' = (∃ (j : Nat) (oo : Own) (m3 : M), j ≤ dn.length ∧ f 6 = .ep [.sl .no (V.map Va.pv), .sl .no (Q.map Qu.pv)] ∧ f 15 = .sl od (dn.map pS) ∧ f 20 = .sl oo (((dn.take j).filter (fun s => decide (findVar V s < 0))).map pS) ∧ f 131 = .sl od (dn.map pS) ∧ f 132 = pI dn.length ∧ f 133 = pI j ∧ Toks m m3 ∧ Mine m m3 oo 1 ∧ m3.ext [some [.sl .no (G.map Va.pv), .sl o (L.map pS)]] = m') := ⟨_, fun _ _ => rfl⟩
    (repeat (first | refine aSeq fun X hX => ?_ | apply aBlk | refine aSkip ?_ | (first | refine aExit ?_ | refine aRet ?_); try simp only [slx, ↓reduceIte, jA, reduceCtorEq] | (first | apply aReg | apply aIf); simp -implicitDefEqProofs only [↓slp, ↓reduceIte, reduceCtorEq, jA, jC, jE, jF, jH, Ya, f0, f3, f78, f79, f80, pI, c3] | apply hX; clear hX X | clear hX X; apply hX; clear hX X | intro hlen; unfold maxLen at hlen | apply And.intro; · first | assumption | and_intros <;> first | omega | assumption))
    rename_i X0 hX0
    have join : ∀ f : F, f 6 = .ep [.sl .no (V.map Va.pv), .sl .no (Q.map Qu.pv)] → f 15 = .sl od (dn.map pS) → X0 f (m2.ext [some [.sl .no (G.map Va.pv), .sl o (L.map pS)]]) := by
     intro f f6 f15
     refine hX0 _ _ ?_
     clear hX X hX0 X0
     (repeat (first | refine aSeq fun X hX => ?_ | apply aBlk | refine aSkip ?_ | (first | refine aExit ?_ | refine aRet ?_); try simp only [slx, ↓reduceIte, jA, reduceCtorEq] | (first | apply aReg | apply aIf); simp -implicitDefEqProofs only [↓slp, ↓reduceIte, reduceCtorEq, jA, jC, jE, jF, jH, Ya, f6, f15] | apply hX; clear hX X | clear hX X; apply hX; clear hX X | intro hlen; unfold maxLen at hlen | apply And.intro; · first | assumption | and_intros <;> first | omega | assumption))
     refine aLoop I2 (fun f m => dn.length - numOf (f 133)) ?_ ?_
     ·rw [hI2]
      exact ⟨0, .full, m2, by omega, f6, f15, rfl, rfl, rfl, rfl, htk2, .full, rfl⟩
     clear f6 f15
     intro f m' hrel
     rw [hI2] at hrel
     obtain ⟨j, oo, m3, hj, f6, f15, f20, f131, f132, f133, htk3, hm3, rfl⟩ := hrel
     cases c4 : decide ((j : Int) < (dn.length : Int)) with
     | true =>
      have hltj : j < dn.length := by simpa using c4
      have gj := getD_map pS dn j hltj
      have hij : IntKind.i64.wrap ((j : Int) + 1) = ((j + 1 : Nat) : Int) := by rw [wrap64 (by omega)]; omega
      have hmej : numOf (f 133) = j := by rw [f133]; exact Int.toNat_natCast j
      have hnx : (dn.take (j + 1)).filter (fun s => decide (findVar V s < 0)) = (dn.take j).filter (fun s => decide (findVar V s < 0)) ++ (if decide (findVar V dn[j] < 0) = true then [dn[j]] else []) := by
       rw [List.take_succ_eq_append_getElem hltj, List.filter_append]
       congr 1
       rw [List.filter_cons, List.filter_nil]
      have hol : ((dn.take j).filter (fun s => decide (findVar V s < 0))).length ≤ 2 ^ 29 + 100 := by
       have := List.length_filter_le (fun s => decide (findVar V s < 0)) (dn.take j)
       rw [List.length_take] at this
       omega
      have hfx := hfV dn[j]
      generalize hOut : (dn.take j).filter (fun s => decide (findVar V s < 0)) = out at *
      have hfr := hm3.free
      have hLa := strN_one out
      have h1 : ∀ y ∈ [pS dn[j]], y.cells.length = 1 := strN_one [dn[j]]
      have hmx2 : out.length + 1 ≤ maxLen := by unfold maxLen; omega
      (repeat (first | refine aSeq fun X hX => ?_ | apply aBlk | refine aSkip ?_ | (first | refine aExit ?_ | refine aRet ?_); try simp only [slx, ↓reduceIte, jA, reduceCtorEq] | (first | apply aReg | apply aIf); simp -implicitDefEqProofs only [↓slp, ↓reduceIte, reduceCtorEq, jA, jC, jE, jF, jH, Ya, f6, f15, f20, f131, f132, f133, pI, c4, gj] | apply hX; clear hX X | clear hX X; apply hX; clear hX X | intro hlen; unfold maxLen at hlen | apply And.intro; · first | assumption | and_intros <;> first | omega | assumption))
      refine callE (hfx _) ?_
      cases c5 : decide (findVar V dn[j] < 0) with
      | true =>
       rw [c5, if_pos rfl] at hnx
       simp -implicitDefEqProofs only [↓slp, ↓reduceIte, reduceCtorEq, jA, jC, jE, jF, jH, Ya, pI, c5, f20]
       (repeat (first | refine aSeq fun X hX => ?_ | apply aBlk | refine aSkip ?_ | (first | refine aExit ?_ | refine aRet ?_); try simp only [slx, ↓reduceIte, jA, reduceCtorEq] | (first | apply aReg | apply aIf); simp -implicitDefEqProofs only [↓slp, ↓reduceIte, reduceCtorEq, jA, jC, jE, jF, jH, Ya, pI, c5, f20, f133, hij, pS] | apply hX; clear hX X | clear hX X; apply hX; clear hX X | intro hlen; unfold maxLen at hlen | apply And.intro; · first | assumption | and_intros <;> first | omega | assumption))
       rw [hI2]
       exact ⟨⟨j + 1, .tok (m3.ext [some [.sl .no (G.map Va.pv), .sl o (L.map pS)]]).nt, (oo.use m3).fresh 1, hltj, f6, f15, by rw [hnx]; exact congrArg (PV.sl _) (List.map_append (f := pS) (l₁ := out) (l₂ := [dn[j]])).symm, f131, f132, rfl, htk3.use hm3, Mine.new htk3 oo 1, rfl⟩, by omega⟩
      | false =>
       rw [c5, if_neg (by simp), List.append_nil] at hnx
       simp -implicitDefEqProofs only [↓slp, ↓reduceIte, reduceCtorEq, jA, jC, jE, jF, jH, Ya, pI, c5, f20]
       (repeat (first | refine aSeq fun X hX => ?_ | apply aBlk | refine aSkip ?_ | (first | refine aExit ?_ | refine aRet ?_); try simp only [slx, ↓reduceIte, jA, reduceCtorEq] | (first | apply aReg | apply aIf); simp -implicitDefEqProofs only [↓slp, ↓reduceIte, reduceCtorEq, jA, jC, jE, jF, jH, Ya, pI, c5, f20, f133, hij, pS] | apply hX; clear hX X | clear hX X; apply hX; clear hX X | intro hlen; unfold maxLen at hlen | apply And.intro; · first | assumption | and_intros <;> first | omega | assumption))
       rw [hI2]
       exact ⟨⟨j + 1, oo, m3, hltj, f6, f15, by rw [hnx]; exact f20, f131, f132, rfl, htk3, hm3, rfl⟩, by omega⟩
     | false =>
      have hjj : j = dn.length := by simp at c4; omega
      subst hjj
      rw [List.take_length] at f20
      (repeat (first | refine aSeq fun X hX => ?_ | apply aBlk | refine aSkip ?_ | (first | refine aExit ?_ | refine aRet ?_); try simp only [slx, ↓reduceIte, jA, reduceCtorEq] | (first | apply aReg | apply aIf); simp -implicitDefEqProofs only [↓slp, ↓reduceIte, reduceCtorEq, jA, jC, jE, jF, jH, Ya, f6, f131, f132, f133, pI, c4] | apply hX; clear hX X | clear hX X; apply hX; clear hX X | intro hlen; unfold maxLen at hlen | apply And.intro; · first | assumption | and_intros <;> first | omega | assumption))
      obtain ⟨I3, hI3⟩ : ∃ I3 : F → M → Prop, ∀ f m', I3 f m' = (∃ (j : Nat), j ≤ V.length ∧ f 15 = .sl od (dn.map pS) ∧ f 20 = .sl oo ((dn.filter (fun s => decide (findVar V s < 0))).map pS) ∧ f 148 = .sl .no (V.map Va.pv) ∧ f 149 = pI V.length ∧ f 150 = pI j ∧ m3.ext [some [.sl .no (G.map Va.pv), .sl o (L.map pS)]] = m') := ⟨_, fun _ _ => rfl⟩
      refine aLoop I3 (fun f m => V.length - numOf (f 150)) ?_ ?_
      ·rw [hI3]
       exact ⟨0, by omega, f15, f20, rfl, rfl, rfl, rfl⟩
      clear f6 f15 f20 f131 f132 f133
      intro f m' hrel
      rw [hI3] at hrel
      obtain ⟨j, hj, f15, f20, f148, f149, f150, rfl⟩ := hrel
      cases c5 : decide ((j : Int) < (V.length : Int)) with
      | true =>
       have hltj : j < V.length := by simpa using c5
       have gj := getD_map Va.pv V j hltj
       have hij : IntKind.i64.wrap ((j : Int) + 1) = ((j + 1 : Nat) : Int) := by rw [wrap64 (by omega)]; omega
       have hmej : numOf (f 150) = j := by rw [f150]; exact Int.toNat_natCast j
       have hin : hasS dn V[j].name = true := (hasS_iff _ _).2 (hdD.mem_iff.2 (List.mem_append_left _ (List.mem_map.2 ⟨_, List.getElem_mem hltj, rfl⟩)))
       have hcc := hct od dn V[j].name
       rw [hin] at hcc
       generalize V[j] = v at *
       (repeat (first | refine aSeq fun X hX => ?_ | apply aBlk | refine aSkip ?_ | (first | refine aExit ?_ | refine aRet ?_); try simp only [slx, ↓reduceIte, jA, reduceCtorEq] | (first | apply aReg | apply aIf); simp -implicitDefEqProofs only [↓slp, ↓reduceIte, reduceCtorEq, jA, jC, jE, jF, jH, Ya, f15, f20, f148, f149, f150, pI, c5, gj] | apply hX; clear hX X | clear hX X; apply hX; clear hX X | intro hlen; unfold maxLen at hlen | apply And.intro; · first | assumption | and_intros <;> first | omega | assumption))
       refine callE (hcc _) ?_
       simp -implicitDefEqProofs only [↓slp, ↓reduceIte, reduceCtorEq, jA, jC, jE, jF, jH, Ya, pB]
       (repeat (first | refine aSeq fun X hX => ?_ | apply aBlk | refine aSkip ?_ | (first | refine aExit ?_ | refine aRet ?_); try simp only [slx, ↓reduceIte, jA, reduceCtorEq] | (first | apply aReg | apply aIf); simp -implicitDefEqProofs only [↓slp, ↓reduceIte, reduceCtorEq, jA, jC, jE, jF, jH, Ya, f150, pI, hij] | apply hX; clear hX X | clear hX X; apply hX; clear hX X | intro hlen; unfold maxLen at hlen | apply And.intro; · first | assumption | and_intros <;> first | omega | assumption))
       rw [hI3]
       exact ⟨⟨j + 1, hltj, f15, f20, f148, f149, rfl, rfl⟩, by omega⟩
      | false =>
       (repeat (first | refine aSeq fun X hX => ?_ | apply aBlk | refine aSkip ?_ | (first | refine aExit ?_ | refine aRet ?_); try simp only [slx, ↓reduceIte, jA, reduceCtorEq] | (first | apply aReg | apply aIf); simp -implicitDefEqProofs only [↓slp, ↓reduceIte, reduceCtorEq, jA, jC, jE, jF, jH, Ya, f15, f20, f148, f149, f150, pI, c5] | apply hX; clear hX X | clear hX X; apply hX; clear hX X | intro hlen; unfold maxLen at hlen | apply And.intro; · first | assumption | and_intros <;> first | omega | assumption))
       simp only [aPost, Tryd.results47, aRes_n, aRes_t, aRes_c, pack_one, pack_two]
       simp -implicitDefEqProofs only [↓slp, ↓reduceIte, reduceCtorEq, jA, jC, jE, jF, jH, Ya, f20]
       refine leave_toks htk3 rfl ⟨_, rfl, ?_, rfl⟩
       have hfl := hdD.filter (fun s => decide (findVar V s < 0))
       rw [List.filter_append] at hfl
       have e1 : (V.map Va.name).filter (fun s => decide (findVar V s < 0)) = [] := by
        rw [List.filter_eq_nil_iff]
        intro s hs
        obtain ⟨v, hv, he⟩ := List.mem_map.1 hs
        rcases findVar_spec V s with ⟨_, h2⟩ | ⟨z, _, h1, _⟩
        ·exact absurd he (h2 v hv)
        ·rw [h1]; simp
       have e2 : D.filter (fun s => decide (findVar V s < 0)) = D := by
        rw [List.filter_eq_self]
        intro s hs
        rcases findVar_spec V s with ⟨h1, _⟩ | ⟨z, hz, h1, h2, _⟩
        ·rw [h1]; rfl
        ·exfalso
         have hnd2 := hDp.nodup_iff.1 hDn'
         exact (List.nodup_append.1 hnd2).2.2 s (List.mem_map.2 ⟨_, List.getElem_mem hz, h2⟩) s hs rfl
       rw [e1, e2] at hfl
       exact hfl
    rcases hx with hx | ⟨q, a, hw, hx⟩
    ·subst hx
     simp -implicitDefEqProofs only [↓slp, ↓reduceIte, reduceCtorEq, jA, jC, jE, jF, jH, Ya, hnf]
     (repeat (first | refine aSeq fun X hX => ?_ | apply aBlk | refine aSkip ?_ | (first | refine aExit ?_ | refine aRet ?_); try simp only [slx, ↓reduceIte, jA, reduceCtorEq] | (first | apply aReg | apply aIf); simp -implicitDefEqProofs only [↓slp, ↓reduceIte, reduceCtorEq, jA, jC, jE, jF, jH, Ya, hnf] | apply hX; clear hX X | clear hX X; apply hX; clear hX X | intro hlen; unfold maxLen at hlen | apply And.intro; · first | assumption | and_intros <;> first | omega | assumption))
     exact join _ f6 f15
    ·subst hx
     simp -implicitDefEqProofs only [↓slp, ↓reduceIte, reduceCtorEq, jA, jC, jE, jF, jH, Ya, hnf]
     (repeat (first | refine aSeq fun X hX => ?_ | apply aBlk | refine aSkip ?_ | (first | refine aExit ?_ | refine aRet ?_); try simp only [slx, ↓reduceIte, jA, reduceCtorEq] | (first | apply aReg | apply aIf); simp -implicitDefEqProofs only [↓slp, ↓reduceIte, reduceCtorEq, jA, jC, jE, jF, jH, Ya, hnf, f3, f5, hg2] | apply hX; clear hX X | clear hX X; apply hX; clear hX X | intro hlen; unfold maxLen at hlen | apply And.intro; · first | assumption | and_intros <;> first | omega | assumption))
     refine callMS (hcl2 q a hw _) (by simp only [List.map_cons, List.map_nil, PV.settle, PV.settles]; rfl) ?_
     rintro v mc ⟨rfl, hmc⟩
     subst hmc
     simp -implicitDefEqProofs only [↓slp, ↓reduceIte, reduceCtorEq, jA, jC, jE, jF, jH, Ya]
     (repeat (first | refine aSeq fun X hX => ?_ | apply aBlk | refine aSkip ?_ | (first | refine aExit ?_ | refine aRet ?_); try simp only [slx, ↓reduceIte, jA, reduceCtorEq] | (first | apply aReg | apply aIf); simp -implicitDefEqProofs only [↓slp, ↓reduceIte, reduceCtorEq, jA, jC, jE, jF, jH, Ya] | apply hX; clear hX X | clear hX X; apply hX; clear hX X | intro hlen; unfold maxLen at hlen | apply And.intro; · first | assumption | and_intros <;> first | omega | assumption))
     exact join _ f6 f15
theorem blockN_all (ns : List No) (hns : NsN ns) : ∀ (d : Nat) (E : List Va) (D : List Str) (V : List Va) (Q : List Qu), NmB ns d E D V Q → BlkN ns E D V Q
 | 0, E, D, V, Q, h => blockN_step ns hns (PB := fun _ _ _ _ => False) (fun E D V Q h => h.elim) E D V Q h
 | d + 1, E, D, V, Q, h => blockN_step ns hns (PB := NmB ns d) (fun E D V Q h => blockN_all ns hns d E D V Q h) E D V Q h
end Go.Proofs.YteiaedmipkcfeaaDoor

/-
 slices.Concat of lists of variables.
-/
set_option linter.unusedVariables false
set_option linter.unusedSimpArgs false
namespace Go.Proofs.YteiaedmipkcfeaaDoor
open Nat renaming reduceEqDiff → jA, reduceAdd → jB, reduceMul → jC, reduceLT → jD, reduceLeDiff → jE, reduceBEq → jF, reduceBNe → jG
open Int renaming reduceLE → jH, reduceLT → jI, reduceToNat → jJ, reduceEq → jK
open Go
set_option maxRecDepth 20000


def pLV (l : List Va) : PV := .sl .no (l.map Va.pv)
theorem lists_lenV {α : Type} (l : List (List α)) (k : Nat) : (l.take k).flatten.length ≤ l.flatten.length := by
 conv => rhs; rw [← List.take_append_drop k l, List.flatten_append, List.length_append]
 omega
set_option maxHeartbeats 2000000 in
theorem concatV_any (o : Own) (ls : List (List Va)) (m : M) (hb : ls.flatten.length < 2 ^ 30) : ACalls Tryd.prog 45 [.sl o (ls.map pLV)] m (fun v m' => v = .sl .no (ls.flatten.map Va.pv) ∧ m' = m) := by
 obtain ⟨d, hd, hd1, hd2⟩ : ∃ d : TD, tdat Tryd.prog 67 = some d ∧ d.sz = 15 ∧ d.by_ ≤ 400 := ⟨(tdat Tryd.prog 67).get (by kernel_rfl), (Option.some_get _).symm, by kernel_rfl, of_decide_eq_true (by kernel_rfl)⟩
 refine ACalls.enter (mu := []) ok_mix Tryd.func45 rfl (by kernel_rfl) (by kernel_rfl) (by simp only [List.length_cons, List.length_nil, Tryd.ntmps45]; omega) ?_
 (repeat (first | refine aSeq fun X hX => ?_ | apply aBlk | refine aSkip ?_ | (first | refine aExit ?_ | refine aRet ?_); try simp only [slx, ↓reduceIte, jA, reduceCtorEq] | (first | apply aReg | refine aDrE ?_); simp -implicitDefEqProofs only [forall_eq, ↓slp, ↓reduceIte, reduceCtorEq, jA, jB, jC, jD, jE, jF, jG, jH, jI, jJ, jK, Y0]; try simp only [fo] | apply hX; clear hX X | clear hX X; apply hX; clear hX X | clear hX X; clear hX X; apply hX; clear hX X | intro hlen; unfold maxLen at hlen | apply And.intro; · first | assumption | and_intros <;> first | omega | assumption))
 obtain ⟨I, hI⟩ : ∃ I : F → M → Prop, ∀ f m', I f m' = (∃ k : Nat, k ≤ ls.length ∧ f 0 = .sl o (ls.map pLV) ∧ f 3 = pI (ls.take k).flatten.length ∧ f 9 = .sl o (ls.map pLV) ∧ f 10 = pI ls.length ∧ f 11 = pI k ∧ m = m') := ⟨_, fun _ _ => rfl⟩
 refine aLoop I (fun f m => ls.length - numOf (f 11)) ?_ ?_
 ·rw [hI]; exact ⟨0, by omega, rfl, rfl, rfl, rfl, rfl, rfl⟩
 intro f m' hrel
 rw [hI] at hrel
 obtain ⟨k, hk, h0, h3, h9, h10, h11, rfl⟩ := hrel
 cases c1 : decide ((k : Int) < (ls.length : Int)) with
 | true =>
  have hlt : k < ls.length := by simpa using c1
  have hg := getD_map pLV ls k hlt
  have hi : IntKind.i64.wrap ((k : Int) + 1) = ((k + 1 : Nat) : Int) := by rw [wrap64 (by omega)]; omega
  have hme : numOf (f 11) = k := by rw [h11]; exact Int.toNat_natCast k
  have hst : (ls.take (k + 1)).flatten.length = (ls.take k).flatten.length + ls[k].length := by rw [List.take_succ_eq_append_getElem hlt, List.flatten_append, List.length_append]; simp
  have hl2 := lists_lenV ls (k + 1)
  have hw : IntKind.i64.wrap (((ls.take k).flatten.length : Int) + (ls[k].length : Int)) = (((ls.take (k + 1)).flatten.length : Nat) : Int) := by rw [wrap64 (by omega), hst]; omega
  have c2 : decide ((((ls.take (k + 1)).flatten.length : Nat) : Int) < 0) = false := by simp
  (repeat (first | refine aSeq fun X hX => ?_ | apply aBlk | refine aSkip ?_ | (first | refine aExit ?_ | refine aRet ?_); try simp only [slx, ↓reduceIte, jA, reduceCtorEq] | (first | apply aReg | refine aDrE ?_); simp -implicitDefEqProofs only [forall_eq, ↓slp, ↓reduceIte, reduceCtorEq, jA, jB, jC, jD, jE, jF, jG, jH, jI, jJ, jK, Y0, h0, h3, h9, h10, h11, pI, c1]; try simp only [fo] | apply hX; clear hX X | clear hX X; apply hX; clear hX X | clear hX X; clear hX X; apply hX; clear hX X | intro hlen; unfold maxLen at hlen | apply And.intro; · first | assumption | and_intros <;> first | omega | assumption))
  refine aIf ?_; simp -implicitDefEqProofs only [↓slp, slb, ↓reduceIte, reduceCtorEq, jA, jB, jC, jD, jE, jF, jG, jH, jI, jJ, jK]
  (repeat (first | refine aSeq fun X hX => ?_ | apply aBlk | refine aSkip ?_ | (first | refine aExit ?_ | refine aRet ?_); try simp only [slx, ↓reduceIte, jA, reduceCtorEq] | (first | apply aReg | refine aDrE ?_); simp -implicitDefEqProofs only [forall_eq, ↓slp, ↓reduceIte, reduceCtorEq, jA, jB, jC, jD, jE, jF, jG, jH, jI, jJ, jK, Y0, h0, h3, h9, h10, h11, pI, hg, pLV, hw, c2]; try simp only [fo] | apply hX; clear hX X | clear hX X; apply hX; clear hX X | clear hX X; clear hX X; apply hX; clear hX X | intro hlen; unfold maxLen at hlen | apply And.intro; · first | assumption | and_intros <;> first | omega | assumption))
  refine aIf ?_; simp -implicitDefEqProofs only [↓slp, slb, ↓reduceIte, reduceCtorEq, jA, jB, jC, jD, jE, jF, jG, jH, jI, jJ, jK]
  (repeat (first | refine aSeq fun X hX => ?_ | apply aBlk | refine aSkip ?_ | (first | refine aExit ?_ | refine aRet ?_); try simp only [slx, ↓reduceIte, jA, reduceCtorEq] | (first | apply aReg | refine aDrE ?_); simp -implicitDefEqProofs only [forall_eq, ↓slp, ↓reduceIte, reduceCtorEq, jA, jB, jC, jD, jE, jF, jG, jH, jI, jJ, jK, Y0, h11, pI, hi]; try simp only [fo] | apply hX; clear hX X | clear hX X; apply hX; clear hX X | clear hX X; clear hX X; apply hX; clear hX X | intro hlen; unfold maxLen at hlen | apply And.intro; · first | assumption | and_intros <;> first | omega | assumption))
  rw [hI]
  exact ⟨⟨k + 1, hlt, h0, rfl, h9, h10, rfl, rfl⟩, by omega⟩
 | false =>
 obtain rfl : k = ls.length := by simp at c1; omega
 rw [List.take_length] at h3
 have hgr := grow_70 ls.flatten.length m d hd (by omega) (by omega) (by have := Nat.mul_le_mul (Nat.le_of_lt hb) hd2; omega)
 rw [hd1] at hgr
 (repeat (first | refine aSeq fun X hX => ?_ | apply aBlk | refine aSkip ?_ | (first | refine aExit ?_ | refine aRet ?_); try simp only [slx, ↓reduceIte, jA, reduceCtorEq] | (first | apply aReg | refine aDrE ?_); simp -implicitDefEqProofs only [forall_eq, ↓slp, ↓reduceIte, reduceCtorEq, jA, jB, jC, jD, jE, jF, jG, jH, jI, jJ, jK, Y0, h0, h3, h9, h10, h11, pI, c1]; try simp only [fo] | apply hX; clear hX X | clear hX X; apply hX; clear hX X | clear hX X; clear hX X; apply hX; clear hX X | intro hlen; unfold maxLen at hlen | apply And.intro; · first | assumption | and_intros <;> first | omega | assumption))
 refine aIf ?_; simp -implicitDefEqProofs only [↓slp, slb, ↓reduceIte, reduceCtorEq, jA, jB, jC, jD, jE, jF, jG, jH, jI, jJ, jK]
 (repeat (first | refine aSeq fun X hX => ?_ | apply aBlk | refine aSkip ?_ | (first | refine aExit ?_ | refine aRet ?_); try simp only [slx, ↓reduceIte, jA, reduceCtorEq] | (first | apply aReg | refine aDrE ?_); simp -implicitDefEqProofs only [forall_eq, ↓slp, ↓reduceIte, reduceCtorEq, jA, jB, jC, jD, jE, jF, jG, jH, jI, jJ, jK, Y0, h0, h3, pI]; try simp only [fo] | apply hX; clear hX X | clear hX X; apply hX; clear hX X | clear hX X; clear hX X; apply hX; clear hX X | intro hlen; unfold maxLen at hlen | apply And.intro; · first | assumption | and_intros <;> first | omega | assumption))
 refine callM hgr ?_
 rintro v m' ⟨rfl, rfl⟩
 simp -implicitDefEqProofs only [↓slp, ↓reduceIte, reduceCtorEq, jA, jB, jC, jD, jE, jF, jG, jH, jI, jJ, jK, Y0, h0]; try simp only [fo]
 (repeat (first | refine aSeq fun X hX => ?_ | apply aBlk | refine aSkip ?_ | (first | refine aExit ?_ | refine aRet ?_); try simp only [slx, ↓reduceIte, jA, reduceCtorEq] | (first | apply aReg | refine aDrE ?_); simp -implicitDefEqProofs only [forall_eq, ↓slp, ↓reduceIte, reduceCtorEq, jA, jB, jC, jD, jE, jF, jG, jH, jI, jJ, jK, Y0, h0]; try simp only [fo] | apply hX; clear hX X | clear hX X; apply hX; clear hX X | clear hX X; clear hX X; apply hX; clear hX X | intro hlen; unfold maxLen at hlen | apply And.intro; · first | assumption | and_intros <;> first | omega | assumption))
 clear I hI h3 h9 h10 h11
 obtain ⟨I, hI⟩ : ∃ I : F → M → Prop, ∀ f m', I f m' = (∃ (k : Nat) (o2 : Own), k ≤ ls.length ∧ f 6 = .sl o2 ((ls.take k).flatten.map Va.pv) ∧ f 25 = .sl o (ls.map pLV) ∧ f 26 = pI ls.length ∧ f 27 = pI k ∧ Toks m m' ∧ Mine m m' o2 15) := ⟨_, fun _ _ => rfl⟩
 refine aLoop I (fun f m => ls.length - numOf (f 27)) ?_ ?_
 ·rw [hI]; exact ⟨0, .tok m.nt, by omega, rfl, rfl, rfl, rfl, (Toks.refl m).use (o := .full) (s := 15) (s' := 15) Mine.full, Mine.new (o := .full) (Toks.refl m) 15⟩
 intro f m' hrel
 rw [hI] at hrel
 obtain ⟨k, o2, hk, h6, h25, h26, h27, ht, hm⟩ := hrel
 cases c1 : decide ((k : Int) < (ls.length : Int)) with
 | true =>
  have hlt : k < ls.length := by simpa using c1
  have hg := getD_map pLV ls k hlt
  have hi : IntKind.i64.wrap ((k : Int) + 1) = ((k + 1 : Nat) : Int) := by rw [wrap64 (by omega)]; omega
  have hme : numOf (f 27) = k := by rw [h27]; exact Int.toNat_natCast k
  have hst : (ls.take (k + 1)).flatten = (ls.take k).flatten ++ ls[k] := by rw [List.take_succ_eq_append_getElem hlt, List.flatten_append]; simp
  have hl2 := lists_lenV ls (k + 1)
  have hl3 : (ls.take (k + 1)).flatten.length = (ls.take k).flatten.length + ls[k].length := by rw [hst, List.length_append]
  have hfree := hm.free
  have q1 : (ls.take k).flatten.length + ls[k].length ≤ maxLen := by unfold maxLen; omega
  have q3 := va_len (ls.take k).flatten
  have q4 := va_len ls[k]
  (repeat (first | refine aSeq fun X hX => ?_ | apply aBlk | refine aSkip ?_ | (first | refine aExit ?_ | refine aRet ?_); try simp only [slx, ↓reduceIte, jA, reduceCtorEq] | (first | apply aReg | refine aDrE ?_); simp -implicitDefEqProofs only [forall_eq, ↓slp, ↓reduceIte, reduceCtorEq, jA, jB, jC, jD, jE, jF, jG, jH, jI, jJ, jK, Y0, h6, h25, h26, h27, pI, c1]; try simp only [fo] | apply hX; clear hX X | clear hX X; apply hX; clear hX X | clear hX X; clear hX X; apply hX; clear hX X | intro hlen; unfold maxLen at hlen | apply And.intro; · first | assumption | and_intros <;> first | omega | assumption))
  refine aIf ?_; simp -implicitDefEqProofs only [↓slp, slb, ↓reduceIte, reduceCtorEq, jA, jB, jC, jD, jE, jF, jG, jH, jI, jJ, jK]
  (repeat (first | refine aSeq fun X hX => ?_ | apply aBlk | refine aSkip ?_ | (first | refine aExit ?_ | refine aRet ?_); try simp only [slx, ↓reduceIte, jA, reduceCtorEq] | (first | apply aReg | refine aDrE ?_); simp -implicitDefEqProofs only [forall_eq, ↓slp, ↓reduceIte, reduceCtorEq, jA, jB, jC, jD, jE, jF, jG, jH, jI, jJ, jK, Y0, h6, h25, h26, h27, pI, hg, pLV, hi]; try simp only [fo] | apply hX; clear hX X | clear hX X; apply hX; clear hX X | clear hX X; clear hX X; apply hX; clear hX X | intro hlen; unfold maxLen at hlen | apply And.intro; · first | assumption | and_intros <;> first | omega | assumption))
  rw [hI]
  exact ⟨⟨k + 1, .tok m'.nt, hlt, by rw [hst, List.map_append]; rfl, h25, h26, rfl, ht.use hm, Mine.new ht o2 15⟩, by omega⟩
 | false =>
  obtain rfl : k = ls.length := by simp at c1; omega
  rw [List.take_length] at h6
  (repeat (first | refine aSeq fun X hX => ?_ | apply aBlk | refine aSkip ?_ | (first | refine aExit ?_ | refine aRet ?_); try simp only [slx, ↓reduceIte, jA, reduceCtorEq] | (first | apply aReg | refine aDrE ?_); simp -implicitDefEqProofs only [forall_eq, ↓slp, ↓reduceIte, reduceCtorEq, jA, jB, jC, jD, jE, jF, jG, jH, jI, jJ, jK, Y0, h6, h25, h26, h27, pI, c1]; try simp only [fo] | apply hX; clear hX X | clear hX X; apply hX; clear hX X | clear hX X; clear hX X; apply hX; clear hX X | intro hlen; unfold maxLen at hlen | apply And.intro; · first | assumption | and_intros <;> first | omega | assumption))
  refine aIf ?_; simp -implicitDefEqProofs only [↓slp, slb, ↓reduceIte, reduceCtorEq, jA, jB, jC, jD, jE, jF, jG, jH, jI, jJ, jK]
  (repeat (first | refine aSeq fun X hX => ?_ | apply aBlk | refine aSkip ?_ | (first | refine aExit ?_ | refine aRet ?_); try simp only [slx, ↓reduceIte, jA, reduceCtorEq] | (first | apply aReg | refine aDrE ?_); simp -implicitDefEqProofs only [forall_eq, ↓slp, ↓reduceIte, reduceCtorEq, jA, jB, jC, jD, jE, jF, jG, jH, jI, jJ, jK, Y0, h6]; try simp only [fo] | apply hX; clear hX X | clear hX X; apply hX; clear hX X | clear hX X; clear hX X; apply hX; clear hX X | intro hlen; unfold maxLen at hlen | apply And.intro; · first | assumption | and_intros <;> first | omega | assumption))
  simp only [aPost, Tryd.results45, aRes_n, aRes_t, aRes_c, pack_one, pack_two]
  exact leave_toks0 ht rfl ⟨rfl, rfl⟩
end Go.Proofs.YteiaedmipkcfeaaDoor

/-
 names: a node that is right; the enumerations.
-/
set_option linter.unusedVariables false
set_option linter.unusedSimpArgs false
namespace Go.Proofs.YteiaedmipkcfeaaDoor
open Nat renaming reduceEqDiff → jA, reduceAdd → jB, reduceMul → jC, reduceLT → jD, reduceLeDiff → jE, reduceBEq → jF, reduceBNe → jG
open Int renaming reduceLE → jH, reduceLT → jI, reduceToNat → jJ, reduceEq → jK
open Go
set_option maxRecDepth 20000


/-- A node that is right. -/
def NdN (ns : List No) (n : No) : Prop := ((n.ins ++ n.outs).map Va.name).Nodup ∧ (∀ v ∈ n.ins ++ n.outs, (v.t.kind = 3 → v.t.name = sCol) ∧ (v.last = true → ∀ F, NmE F v.first)) ∧ (n.ins ++ n.outs).length ≤ 1000 ∧ NmB ns 3 (n.ins ++ n.outs) (n.outs.map Va.name) n.b.vars n.b.eqs
set_option maxHeartbeats 16000000 in
theorem nodeN_any (ns : List No) (hns : NsN ns) (n : No) (hn : NdN ns n) (m : M) : ACalls Tryd.prog 25 [lkP ns, n.pv] m (unit m) := by
 obtain ⟨hnd, hv, hl, hb⟩ := hn
 have hB := fun O m x h1 h2 h3 => blockN_all ns hns 3 _ _ _ _ hb O m x h1 h2 h3
 have hcc := fun o m1 => concatV_any o [n.ins, n.outs] m1 (by rw [show [n.ins, n.outs].flatten = n.ins ++ n.outs by simp]; omega)
 have hLf : [n.ins, n.outs].flatten = n.ins ++ n.outs := by simp
 have hol : n.outs.length ≤ 1000 := by rw [List.length_append] at hl; omega
 have hoL : n.outs.length ≤ (n.ins ++ n.outs).length := by rw [List.length_append]; omega
 rw [hLf] at hcc
 simp only [pLV, List.map_cons, List.map_nil] at hcc
 obtain ⟨L, hL⟩ : ∃ L, n.ins ++ n.outs = L := ⟨_, rfl⟩
 rw [hL] at hcc hnd hv hl hB hoL
 have hV := fun (k : Nat) (h : k < L.length) (o1 : Own) (m : M) => varO_any ns (E := L.take k) (O := []) (v := L[k]) o1 .full (.inr rfl) (by rw [List.length_take]; omega) (noV_take (E := []) hnd h) (hv L[k] (List.getElem_mem h)).1 (hv L[k] (List.getElem_mem h)).2 m
 unfold lkP scN colC at *
 have hnf : ofV Value.nilFunc = .v .nilFunc := rfl
 refine ACalls.enter (mu := [4]) ok_mix Tryd.func25 rfl (by kernel_rfl) (by kernel_rfl) (by simp only [List.length_cons, List.length_nil, Tryd.ntmps25]; omega) ?_
 (repeat (first | refine aSeq fun X hX => ?_ | apply aBlk | refine aSkip ?_ | (first | refine aExit ?_ | refine aRet ?_); try simp only [slx, ↓reduceIte, jA, reduceCtorEq] | (first | apply aReg | apply aIf); simp -implicitDefEqProofs only [↓slp, ↓reduceIte, reduceCtorEq, jA, jF, Ya] | apply hX; clear hX X | clear hX X; apply hX; clear hX X | intro hlen; unfold maxLen at hlen | apply And.intro; · first | assumption | and_intros <;> first | omega | assumption))
 refine callE (hcc _ _) ?_
 simp -implicitDefEqProofs only [↓slp, ↓reduceIte, reduceCtorEq, jA, jF, Ya]
 (repeat (first | refine aSeq fun X hX => ?_ | apply aBlk | refine aSkip ?_ | (first | refine aExit ?_ | refine aRet ?_); try simp only [slx, ↓reduceIte, jA, reduceCtorEq] | (first | apply aReg | apply aIf); simp -implicitDefEqProofs only [↓slp, ↓reduceIte, reduceCtorEq, jA, jF, Ya] | apply hX; clear hX X | clear hX X; apply hX; clear hX X | intro hlen; unfold maxLen at hlen | apply And.intro; · first | assumption | and_intros <;> first | omega | assumption))
 obtain ⟨I, hI⟩ : ∃ I : F → M → Prop, ∀ f m', I f m' = (∃ (k : Nat) (o1 : Own) (m2 : M), k ≤ L.length ∧ f 0 = .ep [.sl .no [.ag [.v (.string sCol), .sl .no [pS sRed, pS sGreen, pS sBlue], .v (.int .i64 0), .v (.int .i64 0)]], .sl .no (ns.map No.pv)] ∧ f 3 = .ep n.cs ∧ f 4 = .bp m.nb 0 ∧ f 18 = .sl .no (L.map Va.pv) ∧ f 19 = pI L.length ∧ f 20 = pI k ∧ Toks m m2 ∧ m2.ext [some [.sl o1 ((L.take k).map Va.pv), .sl .full []]] = m') := ⟨_, fun _ _ => rfl⟩
 refine aLoop I (fun f m => L.length - numOf (f 20)) ?_ ?_
 ·rw [hI]; exact ⟨0, .full, m, by omega, rfl, rfl, rfl, rfl, rfl, rfl, .refl _, rfl⟩
 intro f m' hrel
 rw [hI] at hrel
 obtain ⟨k, o1, m2, hk, f0, f3, f4, f18, f19, f20, htk, rfl⟩ := hrel
 have hnb := htk.nb
 cases c1 : decide ((k : Int) < (L.length : Int)) with
 | true =>
  have hlt : k < L.length := by simpa using c1
  have g0 := getD_map Va.pv L k hlt
  have hi : IntKind.i64.wrap ((k : Int) + 1) = ((k + 1 : Nat) : Int) := by rw [wrap64 (by omega)]; omega
  have hme : numOf (f 20) = k := by rw [f20]; exact Int.toNat_natCast k
  have hVk := hV k hlt o1
  have hst : L.take (k + 1) = L.take k ++ [L[k]] := List.take_succ_eq_append_getElem hlt
  have hgb : (m2.ext [some [.sl o1 ((L.take k).map Va.pv), .sl .full []]]).get m.nb = some [.sl o1 ((L.take k).map Va.pv), .sl .full []] := by rw [← hnb]; exact ext_get (i := 0) rfl
  generalize L.take k = G at *
  generalize L[k] = v at *
  (repeat (first | refine aSeq fun X hX => ?_ | apply aBlk | refine aSkip ?_ | (first | refine aExit ?_ | refine aRet ?_); try simp only [slx, ↓reduceIte, jA, reduceCtorEq] | (first | apply aReg | apply aIf); simp -implicitDefEqProofs only [↓slp, ↓reduceIte, reduceCtorEq, jA, jF, Ya, f0, f3, f4, f18, f19, f20, pI, c1, g0, hnb, hgb] | apply hX; clear hX X | clear hX X; apply hX; clear hX X | intro hlen; unfold maxLen at hlen | apply And.intro; · first | assumption | and_intros <;> first | omega | assumption))
  refine callM (hVk _) ?_
  rintro w mw ⟨t, rfl, ht2, htt⟩
  have htk3 : Toks m ⟨m2.boxes, mw.toks⟩ := ⟨Nat.le_trans htk.nt (show m2.toks.length ≤ mw.toks.length from ht2.nt), by
   have h1 := ht2.toks
   have h2 := htk.toks
   have h3 : (m2.ext [some [.sl o1 (G.map Va.pv), .sl .full []]]).toks = m2.toks := rfl
   have h4 : (m2.ext [some [.sl o1 (G.map Va.pv), .sl .full []]]).nt = m2.toks.length := rfl
   rw [h3, h4] at h1
   rw [← h2, ← h1, List.take_take, Nat.min_eq_left (show m.nt ≤ m2.toks.length from htk.nt)], htk.boxes⟩
  have hmw : mw = (⟨m2.boxes, mw.toks⟩ : M).ext [some [.sl o1 (G.map Va.pv), .sl .full []]] := by
   have := ht2.boxes
   cases mw
   simp only at this
   subst this
   rfl
  have hnb3 := htk3.nb
  generalize hm3 : (⟨m2.boxes, mw.toks⟩ : M) = m3 at *
  rw [hmw]
  simp -implicitDefEqProofs only [↓slp, ↓reduceIte, reduceCtorEq, jA, jF, Ya, hnb3, f4]
  (repeat (first | refine aSeq fun X hX => ?_ | apply aBlk | refine aSkip ?_ | (first | refine aExit ?_ | refine aRet ?_); try simp only [slx, ↓reduceIte, jA, reduceCtorEq] | (first | apply aReg | apply aIf); simp -implicitDefEqProofs only [↓slp, ↓reduceIte, reduceCtorEq, jA, jF, Ya, f20, pI, hi] | apply hX; clear hX X | clear hX X; apply hX; clear hX X | intro hlen; unfold maxLen at hlen | apply And.intro; · first | assumption | and_intros <;> first | omega | assumption))
  rw [hI]
  exact ⟨⟨k + 1, .tok t, m3, hlt, f0, f3, f4, f18, f19, rfl, htk3, by rw [hst]⟩, by omega⟩
 | false =>
  have hkk : k = L.length := by simp at c1; omega
  subst hkk
  rw [List.take_length]
  (repeat (first | refine aSeq fun X hX => ?_ | apply aBlk | refine aSkip ?_ | (first | refine aExit ?_ | refine aRet ?_); try simp only [slx, ↓reduceIte, jA, reduceCtorEq] | (first | apply aReg | apply aIf); simp -implicitDefEqProofs only [↓slp, ↓reduceIte, reduceCtorEq, jA, jF, Ya, f0, f3, f4, f18, f19, f20, pI, c1, hnb] | apply hX; clear hX X | clear hX X; apply hX; clear hX X | intro hlen; unfold maxLen at hlen | apply And.intro; · first | assumption | and_intros <;> first | omega | assumption))
  have hct := fun (o : Own) (l : List Str) (s : Str) (m : M) => contains_any o l s m
  obtain ⟨J, hJ⟩ : ∃ J : F → M → Prop, ∀ f m', J f m' = (∃ (j : Nat) (oo : Own) (m3 : M), j ≤ n.outs.length ∧ f 0 = .ep [.sl .no [.ag [.v (.string sCol), .sl .no [pS sRed, pS sGreen, pS sBlue], .v (.int .i64 0), .v (.int .i64 0)]], .sl .no (ns.map No.pv)] ∧ f 3 = .ep n.cs ∧ f 4 = .bp m.nb 0 ∧ f 30 = .sl .no (n.outs.map Va.pv) ∧ f 31 = pI n.outs.length ∧ f 32 = pI j ∧ Toks m m3 ∧ Mine m m3 oo 1 ∧ m3.ext [some [.sl o1 (L.map Va.pv), .sl oo (((n.outs.take j).map Va.name).map pS)]] = m') := ⟨_, fun _ _ => rfl⟩
  refine aLoop J (fun f m => n.outs.length - numOf (f 32)) ?_ ?_
  ·rw [hJ]; exact ⟨0, .full, m2, by omega, f0, f3, f4, rfl, rfl, rfl, htk, .full, rfl⟩
  clear f0 f3 f4 f18 f19 f20
  intro f m' hrel
  rw [hJ] at hrel
  obtain ⟨j, oo, m3, hj, f0, f3, f4, f30, f31, f32, htk3, hm3, rfl⟩ := hrel
  have hnb3 := htk3.nb
  cases c2 : decide ((j : Int) < (n.outs.length : Int)) with
  | true =>
   have hltj : j < n.outs.length := by simpa using c2
   have gj := getD_map Va.pv n.outs j hltj
   have hij : IntKind.i64.wrap ((j : Int) + 1) = ((j + 1 : Nat) : Int) := by rw [wrap64 (by omega)]; omega
   have hmej : numOf (f 32) = j := by rw [f32]; exact Int.toNat_natCast j
   have hst : (n.outs.take (j + 1)).map Va.name = (n.outs.take j).map Va.name ++ [n.outs[j].name] := by rw [List.take_succ_eq_append_getElem hltj, List.map_append]; rfl
   have hgl : ((n.outs.take j).map Va.name).length ≤ 1000 := by rw [List.length_map, List.length_take]; omega
   generalize (n.outs.take j).map Va.name = A at *
   generalize n.outs[j] = v at *
   have hfr := hm3.free
   have hLa := strN_one A
   have h1 : ∀ y ∈ [pS v.name], y.cells.length = 1 := strN_one [v.name]
   have hmx2 : A.length + 1 ≤ maxLen := by unfold maxLen; omega
   (repeat (first | refine aSeq fun X hX => ?_ | apply aBlk | refine aSkip ?_ | (first | refine aExit ?_ | refine aRet ?_); try simp only [slx, ↓reduceIte, jA, reduceCtorEq] | (first | apply aReg | apply aIf); simp -implicitDefEqProofs only [↓slp, ↓reduceIte, reduceCtorEq, jA, jF, Ya, f0, f3, f4, f30, f31, f32, pI, c2, gj, hnb3, hij, List.set_cons_succ, List.set_cons_zero, List.getElem?_cons_succ, List.getElem?_cons_zero] | apply hX; clear hX X | clear hX X; apply hX; clear hX X | intro hlen; unfold maxLen at hlen | apply And.intro; · first | assumption | and_intros <;> first | omega | assumption))
   rw [hJ]
   exact ⟨⟨j + 1, .tok m3.nt, (oo.use m3).fresh 1, hltj, f0, f3, f4, f30, f31, rfl, htk3.use hm3, Mine.new htk3 oo 1, by rw [hst, List.map_append]; rfl⟩, by omega⟩
  | false =>
   have hjj : j = n.outs.length := by simp at c2; omega
   subst hjj
   rw [List.take_length]
   have hBX := hB (n.outs.map Va.name) (m3.ext [some [.sl o1 (L.map Va.pv), .sl oo ((n.outs.map Va.name).map pS)]]) (.v .nilFunc) (fun z h => h) (by rw [List.length_map]; exact hoL) (.inl rfl)
   have hgb : (m3.ext [some [.sl o1 (L.map Va.pv), .sl oo ((n.outs.map Va.name).map pS)]]).get m.nb = some [.sl o1 (L.map Va.pv), .sl oo ((n.outs.map Va.name).map pS)] := by rw [← hnb3]; exact ext_get (i := 0) rfl
   (repeat (first | refine aSeq fun X hX => ?_ | apply aBlk | refine aSkip ?_ | (first | refine aExit ?_ | refine aRet ?_); try simp only [slx, ↓reduceIte, jA, reduceCtorEq] | (first | apply aReg | apply aIf); simp -implicitDefEqProofs only [↓slp, ↓reduceIte, reduceCtorEq, jA, jF, Ya, f0, f3, f4, f30, f31, f32, pI, c2, hnb3, hgb, hnf] | apply hX; clear hX X | clear hX X; apply hX; clear hX X | intro hlen; unfold maxLen at hlen | apply And.intro; · first | assumption | and_intros <;> first | omega | assumption))
   refine callMS hBX (by simp only [List.map_cons, List.map_nil, PV.settle, PV.settles, hnf]) ?_
   rintro w mw ⟨r, rfl, hrp, hmw⟩
   subst hmw
   simp -implicitDefEqProofs only [↓slp, ↓reduceIte, reduceCtorEq, jA, jF, Ya]
   (repeat (first | refine aSeq fun X hX => ?_ | apply aBlk | refine aSkip ?_ | (first | refine aExit ?_ | refine aRet ?_); try simp only [slx, ↓reduceIte, jA, reduceCtorEq] | (first | apply aReg | apply aIf); simp -implicitDefEqProofs only [↓slp, ↓reduceIte, reduceCtorEq, jA, jF, Ya, f3] | apply hX; clear hX X | clear hX X; apply hX; clear hX X | intro hlen; unfold maxLen at hlen | apply And.intro; · first | assumption | and_intros <;> first | omega | assumption))
   obtain ⟨J2, hJ2⟩ : ∃ J2 : F → M → Prop, ∀ f m', J2 f m' = (∃ (i : Nat), i ≤ n.outs.length ∧ f 9 = .sl .no (r.map pS) ∧ f 50 = .sl .no (n.outs.map Va.pv) ∧ f 51 = pI n.outs.length ∧ f 52 = pI i ∧ m3.ext [some [.sl o1 (L.map Va.pv), .sl oo ((n.outs.map Va.name).map pS)]] = m') := ⟨_, fun _ _ => rfl⟩
   refine aLoop J2 (fun f m => n.outs.length - numOf (f 52)) ?_ ?_
   ·rw [hJ2]; exact ⟨0, by omega, rfl, rfl, rfl, rfl, rfl⟩
   clear f0 f3 f4 f30 f31 f32
   intro f m' hrel
   rw [hJ2] at hrel
   obtain ⟨i, hil, f9, f50, f51, f52, rfl⟩ := hrel
   cases c3 : decide ((i : Int) < (n.outs.length : Int)) with
   | true =>
    have hlti : i < n.outs.length := by simpa using c3
    have gi := getD_map Va.pv n.outs i hlti
    have hii : IntKind.i64.wrap ((i : Int) + 1) = ((i + 1 : Nat) : Int) := by rw [wrap64 (by omega)]; omega
    have hmei : numOf (f 52) = i := by rw [f52]; exact Int.toNat_natCast i
    have hin : hasS r n.outs[i].name = true := (hasS_iff _ _).2 (hrp.mem_iff.2 (List.mem_map.2 ⟨_, List.getElem_mem hlti, rfl⟩))
    have hcn := hct .no r n.outs[i].name
    rw [hin] at hcn
    generalize n.outs[i] = v at *
    (repeat (first | refine aSeq fun X hX => ?_ | apply aBlk | refine aSkip ?_ | (first | refine aExit ?_ | refine aRet ?_); try simp only [slx, ↓reduceIte, jA, reduceCtorEq] | (first | apply aReg | apply aIf); simp -implicitDefEqProofs only [↓slp, ↓reduceIte, reduceCtorEq, jA, jF, Ya, f9, f50, f51, f52, pI, c3, gi] | apply hX; clear hX X | clear hX X; apply hX; clear hX X | intro hlen; unfold maxLen at hlen | apply And.intro; · first | assumption | and_intros <;> first | omega | assumption))
    refine callE (hcn _) ?_
    simp -implicitDefEqProofs only [↓slp, ↓reduceIte, reduceCtorEq, jA, jF, Ya, pB]
    (repeat (first | refine aSeq fun X hX => ?_ | apply aBlk | refine aSkip ?_ | (first | refine aExit ?_ | refine aRet ?_); try simp only [slx, ↓reduceIte, jA, reduceCtorEq] | (first | apply aReg | apply aIf); simp -implicitDefEqProofs only [↓slp, ↓reduceIte, reduceCtorEq, jA, jF, Ya, f52, pI, hii] | apply hX; clear hX X | clear hX X; apply hX; clear hX X | intro hlen; unfold maxLen at hlen | apply And.intro; · first | assumption | and_intros <;> first | omega | assumption))
    rw [hJ2]
    exact ⟨⟨i + 1, hlti, f9, f50, f51, rfl, rfl⟩, by omega⟩
   | false =>
    (repeat (first | refine aSeq fun X hX => ?_ | apply aBlk | refine aSkip ?_ | (first | refine aExit ?_ | refine aRet ?_); try simp only [slx, ↓reduceIte, jA, reduceCtorEq] | (first | apply aReg | apply aIf); simp -implicitDefEqProofs only [↓slp, ↓reduceIte, reduceCtorEq, jA, jF, Ya, f9, f50, f51, f52, pI, c3] | apply hX; clear hX X | clear hX X; apply hX; clear hX X | intro hlen; unfold maxLen at hlen | apply And.intro; · first | assumption | and_intros <;> first | omega | assumption))
    simp only [aPost, Tryd.results25, aRes_n, aRes_t, aRes_c, pack_one, pack_two]
    exact leave_toks htk3 rfl ⟨rfl, rfl⟩
set_option maxHeartbeats 4000000 in
theorem enumsN_any (ns : List No) (m : M) : ACalls Tryd.prog 22 [lkP ns] m (unit m) := by
 have hfe := fun (m : M) => findEnum_C m
 have hct := fun (o : Own) (l : List Str) (s : Str) (m : M) => contains_any o l s m
 unfold lkP colC at *
 have c00 : decide ((0 : Int) < 0) = false := rfl
 refine ACalls.enter (mu := []) ok_mix Tryd.func22 rfl (by kernel_rfl) (by kernel_rfl) (by simp only [List.length_cons, List.length_nil, Tryd.ntmps22]; omega) ?_
 (repeat (first | refine aSeq fun X hX => ?_ | apply aBlk | refine aSkip ?_ | (first | refine aExit ?_ | refine aRet ?_); try simp only [slx, ↓reduceIte, jA, reduceCtorEq] | (first | apply aReg | apply aIf); simp -implicitDefEqProofs only [↓slp, ↓reduceIte, reduceCtorEq, jA, jF, Ya] | apply hX; clear hX X | clear hX X; apply hX; clear hX X | intro hlen; unfold maxLen at hlen | apply And.intro; · first | assumption | and_intros <;> first | omega | assumption))
 have hcn : cols.Nodup := by decide +kernel
 have hno : ∀ j (h : j < cols.length), hasS (cols.take j) cols[j] = false := fun j h => hasS_no (fun hm => by
  obtain ⟨i, hi2, he⟩ := List.getElem_of_mem hm
  rw [List.getElem_take] at he
  have hij2 : i < j := by rw [List.length_take] at hi2; omega
  exact (List.pairwise_iff_getElem.1 hcn i j (by omega) h hij2) he)
 have hc3 : cols.length = 3 := rfl
 obtain ⟨I, hI⟩ : ∃ I : F → M → Prop, ∀ f m', I f m' = (∃ (k : Nat) (o : Own) (S : List Str) (mm : M), k ≤ 1 ∧ (k = 0 → S = []) ∧ f 0 = .ep [.sl .no [.ag [.v (.string sCol), .sl .no [pS sRed, pS sGreen, pS sBlue], .v (.int .i64 0), .v (.int .i64 0)]], .sl .no (ns.map No.pv)] ∧ f 2 = .sl o (S.map pS) ∧ f 11 = .sl .no [.ag [.v (.string sCol), .sl .no [pS sRed, pS sGreen, pS sBlue], .v (.int .i64 0), .v (.int .i64 0)]] ∧ f 12 = pI 1 ∧ f 13 = pI k ∧ Toks m mm ∧ Mine m mm o 1 ∧ mm = m') := ⟨_, fun _ _ => rfl⟩
 refine aLoop I (fun f m => 1 - numOf (f 13)) ?_ ?_
 ·rw [hI]; exact ⟨0, .full, [], m, by omega, fun _ => rfl, rfl, rfl, rfl, rfl, rfl, .refl _, .full, rfl⟩
 intro f m' hrel
 rw [hI] at hrel
 obtain ⟨k, o, S, mm, hk, hS, f0, f2, f11, f12, f13, htk, hmi, rfl⟩ := hrel
 have hkk : k = 0 ∨ k = 1 := by omega
 rcases hkk with rfl | rfl
 ·rw [hS rfl] at f2
  have d1 : decide (((0 : Nat) : Int) < 1) = true := rfl
  have d0 : decide ((0 : Int) < ((0 : Nat) : Int)) = false := rfl
  have hi : IntKind.i64.wrap ((0 : Int) + 1) = 1 := by rw [wrap64 (by omega)]; omega
  have hme : numOf (f 13) = 0 := by rw [f13]; rfl
  (repeat (first | refine aSeq fun X hX => ?_ | apply aBlk | refine aSkip ?_ | (first | refine aExit ?_ | refine aRet ?_); try simp only [slx, ↓reduceIte, jA, reduceCtorEq] | (first | apply aReg | apply aIf); simp -implicitDefEqProofs only [↓slp, ↓reduceIte, reduceCtorEq, jA, jF, Ya, f0, f2, f11, f12, f13, pI, d1] | apply hX; clear hX X | clear hX X; apply hX; clear hX X | intro hlen; unfold maxLen at hlen | apply And.intro; · first | assumption | and_intros <;> first | omega | assumption))
  (repeat (first | refine aSeq fun X hX => ?_ | apply aBlk | refine aSkip ?_ | (first | refine aExit ?_ | refine aRet ?_); try simp only [slx, ↓reduceIte, jA, reduceCtorEq] | (first | apply aReg | refine aDrE ?_ | apply aIf); simp -implicitDefEqProofs only [↓slp, ↓reduceIte, reduceCtorEq, jA, jF, Ya, f0, f2, pI] | apply hX; clear hX X | clear hX X; apply hX; clear hX X | intro hlen; unfold maxLen at hlen | apply And.intro; · first | assumption | and_intros <;> first | omega | assumption))
  refine callE (hfe _) ?_
  simp -implicitDefEqProofs only [↓slp, ↓reduceIte, reduceCtorEq, jA, jF, Ya, pI, d1, c00, d0]
  (repeat (first | refine aSeq fun X hX => ?_ | apply aBlk | refine aSkip ?_ | (first | refine aExit ?_ | refine aRet ?_); try simp only [slx, ↓reduceIte, jA, reduceCtorEq] | (first | apply aReg | apply aIf); simp -implicitDefEqProofs only [↓slp, ↓reduceIte, reduceCtorEq, jA, jF, Ya, f0, f2, pI, c00, d0] | apply hX; clear hX X | clear hX X; apply hX; clear hX X | intro hlen; unfold maxLen at hlen | apply And.intro; · first | assumption | and_intros <;> first | omega | assumption))
  obtain ⟨J, hJ⟩ : ∃ J : F → M → Prop, ∀ f m', J f m' = (∃ (j : Nat) (o : Own) (m2 : M), j ≤ 3 ∧ f 0 = .ep [.sl .no [.ag [.v (.string sCol), .sl .no [pS sRed, pS sGreen, pS sBlue], .v (.int .i64 0), .v (.int .i64 0)]], .sl .no (ns.map No.pv)] ∧ f 2 = .sl o ((cols.take j).map pS) ∧ f 11 = .sl .no [.ag [.v (.string sCol), .sl .no [pS sRed, pS sGreen, pS sBlue], .v (.int .i64 0), .v (.int .i64 0)]] ∧ f 12 = pI 1 ∧ f 13 = pI 0 ∧ f 32 = .sl .no (cols.map pS) ∧ f 33 = pI 3 ∧ f 34 = pI j ∧ Toks m m2 ∧ Mine m m2 o 1 ∧ m2 = m') := ⟨_, fun _ _ => rfl⟩
  refine aLoop J (fun f m => 3 - numOf (f 34)) ?_ ?_
  ·rw [hJ]; exact ⟨0, o, mm, by omega, f0, f2, f11, f12, f13, rfl, rfl, rfl, htk, hmi, rfl⟩
  clear f0 f2 f11 f12 f13 htk hmi
  intro f m' hrel
  rw [hJ] at hrel
  obtain ⟨j, o, m2, hj, f0, f2, f11, f12, f13, f32, f33, f34, htk, hmi, rfl⟩ := hrel
  cases c2 : decide ((j : Int) < 3) with
  | true =>
   have hlt3 : j < 3 := by have := of_decide_eq_true c2; omega
   have hltj : j < cols.length := hlt3
   have gj := getD_map pS cols j hltj
   have hij : IntKind.i64.wrap ((j : Int) + 1) = ((j + 1 : Nat) : Int) := by rw [wrap64 (by omega)]; omega
   have hmej : numOf (f 34) = j := by rw [f34]; exact Int.toNat_natCast j
   have hst : cols.take (j + 1) = cols.take j ++ [cols[j]] := List.take_succ_eq_append_getElem hltj
   have hcc := hct o (cols.take j) cols[j]
   rw [hno j hltj] at hcc
   have hfr := hmi.free
   have hll : (cols.take j).length ≤ 3 := by rw [List.length_take]; omega
   obtain ⟨CL, hCL⟩ : ∃ CL : List PV, cols.map pS = CL := ⟨_, rfl⟩
   have hCl : CL.length = 3 := by rw [← hCL]; rfl
   rw [hCL] at f32 gj
   generalize cols[j] = c at *
   generalize cols.take j = A at *
   have hLa := strN_one A
   have h1 : ∀ y ∈ [pS c], y.cells.length = 1 := strN_one [c]
   have hmx2 : A.length + 1 ≤ maxLen := by unfold maxLen; omega
   (repeat (first | refine aSeq fun X hX => ?_ | apply aBlk | refine aSkip ?_ | (first | refine aExit ?_ | refine aRet ?_); try simp only [slx, ↓reduceIte, jA, reduceCtorEq] | (first | apply aReg | apply aIf); simp -implicitDefEqProofs only [↓slp, ↓reduceIte, reduceCtorEq, jA, jF, Ya, f0, f2, f32, f33, f34, pI, c2, gj, hCl] | apply hX; clear hX X | clear hX X; apply hX; clear hX X | intro hlen; unfold maxLen at hlen | apply And.intro; · first | assumption | and_intros <;> first | omega | assumption))
   refine callE (hcc _) ?_
   simp -implicitDefEqProofs only [↓slp, ↓reduceIte, reduceCtorEq, jA, jF, Ya, pB, f2, hij]
   (repeat (first | refine aSeq fun X hX => ?_ | apply aBlk | refine aSkip ?_ | (first | refine aExit ?_ | refine aRet ?_); try simp only [slx, ↓reduceIte, jA, reduceCtorEq] | (first | apply aReg | apply aIf); simp -implicitDefEqProofs only [↓slp, ↓reduceIte, reduceCtorEq, jA, jF, Ya, f0, f2, f34, pI, hij, pS] | apply hX; clear hX X | clear hX X; apply hX; clear hX X | intro hlen; unfold maxLen at hlen | apply And.intro; · first | assumption | and_intros <;> first | omega | assumption))
   rw [hJ]
   exact ⟨⟨j + 1, .tok m2.nt, (o.use m2).fresh 1, hlt3, f0, by rw [hst, List.map_append]; rfl, f11, f12, f13, by rw [hCL]; exact f32, f33, rfl, htk.use hmi, Mine.new htk o 1, rfl⟩, by omega⟩
  | false =>
   (repeat (first | refine aSeq fun X hX => ?_ | apply aBlk | refine aSkip ?_ | (first | refine aExit ?_ | refine aRet ?_); try simp only [slx, ↓reduceIte, jA, reduceCtorEq] | (first | apply aReg | apply aIf); simp -implicitDefEqProofs only [↓slp, ↓reduceIte, reduceCtorEq, jA, jF, Ya, f2, f32, f33, f34, f13, pI, c2, hi] | apply hX; clear hX X | clear hX X; apply hX; clear hX X | intro hlen; unfold maxLen at hlen | apply And.intro; · first | assumption | and_intros <;> first | omega | assumption))
   rw [hI]
   exact ⟨⟨1, o, cols.take j, m2, by omega, (fun h => by cases h), f0, f2, f11, f12, rfl, htk, hmi, rfl⟩, by rw [hme]; simp⟩
 ·have d1 : decide (((1 : Nat) : Int) < 1) = false := rfl
  (repeat (first | refine aSeq fun X hX => ?_ | apply aBlk | refine aSkip ?_ | (first | refine aExit ?_ | refine aRet ?_); try simp only [slx, ↓reduceIte, jA, reduceCtorEq] | (first | apply aReg | apply aIf); simp -implicitDefEqProofs only [↓slp, ↓reduceIte, reduceCtorEq, jA, jF, Ya, f0, f2, f11, f12, f13, pI, d1] | apply hX; clear hX X | clear hX X; apply hX; clear hX X | intro hlen; unfold maxLen at hlen | apply And.intro; · first | assumption | and_intros <;> first | omega | assumption))
  simp only [aPost, Tryd.results22, aRes_n, aRes_t, aRes_c, pack_one, pack_two]
  exact leave_toks0 htk rfl ⟨rfl, rfl⟩
end Go.Proofs.YteiaedmipkcfeaaDoor
