/-
  Texts that belong together: CrL, CrM, CrV.
-/
import Derived.Test.YtaealemhegdmpaaDoorCrY
import Derived.Test.YtaealemhegdmpaaDoorCgD
import Derived.Test.YtaealemhegdmpaaDoorCsW
import Derived.Test.YtaealemhegdmpaaDoorAbInvB
/-
  The reference's Check (layer 11); the first that needs itself is one.
-/
set_option linter.unusedVariables false
set_option linter.unusedSimpArgs false
namespace Go.Proofs.YtaealemhegdmpaaDoor
open Nat renaming reduceEqDiff → jA, reduceAdd → jB, reduceMul → jC, reduceLT → jD, reduceLeDiff → jE, reduceBEq → jF, reduceBNe → jG
open Int renaming reduceLE → jH, reduceLT → jI, reduceToNat → jJ, reduceEq → jK
open Go
-- EXX: No.settle_pv, No.pure_pv, No.cells_pv, No.cs, No.pv.eq_1
set_option maxRecDepth 20000
-- TNAMES: int; uint8; int32; string; bool; []string; []api.Expr; api.Expr; api.Pos; []api.Pos; api.Type; api.On; []api.On; api.Var; []api.Var; api.Equation; []api.Equation; api.Block; api.Node; []api.Node; api.Enum; []api.Enum; api.Program; []int; [2]int; [][2]int; []bool; [][]bool; metronomeref11.Graph; *metronomeref11.Graph
set_option linter.defProp false
def tfCrL := tfCrO

theorem fst_one {g : Gs} {r : Option Vx} (h : FstB [g] r) : (r = none ∧ ∀ i, ¬ Bad g i) ∨ ∃ (i : Nat) (hi : i < g.vs.length), Bad g i ∧ (∀ j, j < i → ¬ Bad g j) ∧ r = some g.vs[i] := by
  rcases h with ⟨h1, h2⟩ | ⟨a, g', b, i, hi, hg, _, hb, hm, hr⟩
  · exact .inl ⟨h1, h2 g (List.mem_singleton.2 rfl)⟩
  · obtain rfl : g' = g := by
      have : g' ∈ [g] := by rw [hg]; simp
      exact List.mem_singleton.1 this
    exact .inr ⟨i, hi, hb, hm, hr⟩
theorem fst_uniq {g : Gs} {r r' : Option Vx} (h : FstB [g] r) (h' : FstB [g] r') : r = r' := by
  rcases fst_one h with ⟨rfl, h2⟩ | ⟨i, hi, hb, hm, rfl⟩
  · rcases fst_one h' with ⟨rfl, _⟩ | ⟨j, hj, hb', _, _⟩
    · rfl
    · exact absurd hb' (h2 j)
  · rcases fst_one h' with ⟨rfl, h2⟩ | ⟨j, hj, hb', hm', rfl⟩
    · exact absurd hb (h2 i)
    · rcases Nat.lt_trichotomy i j with q | rfl | q
      · exact absurd hb (hm' i q)
      · rfl
      · exact absurd hb' (hm j q)
theorem rfn_ch (l : List Int) (kp : List Bool) : RfN (chP l kp) := by
  have hk : chK l ≤ 12 := by unfold chK; omega
  obtain ⟨c1, hV⟩ : ∃ c, (chP l kp).b.vars = (plVs (chVs (chK l)) c).1 := ⟨_, rfl⟩
  obtain ⟨c2, hQ⟩ : ∃ c, (chP l kp).b.eqs = (plQs (chRw l kp (chK l)) c).1 := ⟨_, rfl⟩
  refine ⟨Nat.zero_le _, by show 1 ≤ 100; omega, by rw [hV, plVs_len, chV_len]; omega, by rw [hQ, plQs_len, chRw_len]; omega, fun v hv => ?_, fun q hq => ?_⟩
  · rw [hV] at hv
    obtain ⟨v0, h0, c', rfl⟩ := plVs_mem hv
    obtain ⟨i, _, rfl⟩ := List.mem_map.1 (show v0 ∈ (List.range (chK l)).map _ from h0)
    rfl
  · rw [hQ] at hq
    obtain ⟨q0, h0, c', rfl⟩ := plQs_mem hq
    rcases List.mem_cons.1 (show q0 ∈ chQ0 :: (List.range (chK l)).map (chQ l kp) from h0) with rfl | h0
    · exact ⟨rfl, ⟨_, rfl⟩, rfl, rfl, rfl, of_decide_eq_true rfl⟩
    · obtain ⟨i, hi, rfl⟩ := List.mem_map.1 h0
      exact ⟨rfl, ⟨_, rfl⟩, rfl, rfl, ch_csx l kp i _⟩
def posV : Option Vx → PV
  | none => pQ (0, 0)
  | some x => pQ (x.line, x.col)
set_option maxHeartbeats 8000000 in
theorem rcheck_any (ns : List No) (E : List PV) (hnl : ns.length ≤ 1000) (hn : ∀ n ∈ ns, RfN n ∧ CsN 0 n) (m : M) : ACalls Tryd.prog 7 [.ag [.sl .no E, .sl .no (ns.map No.pv)]] m (fun v m' => ∃ r : Option Vx, v = .tp [pB r.isSome, posV r] ∧ FstB (ns.map (gOf 0)) r ∧ m' = m) := by
  refine ACalls.enter (mu := [3]) ok_mix Tryd.func7 rfl (by kernel_rfl) (by kernel_rfl) (by simp only [List.length_cons, List.length_nil, Tryd.ntmps7]; omega) ?_
  (repeat (first | refine aSeq fun X hX => ?_ | refine aBlk ?_ | refine aSkip ?_ | (first | refine aExit ?_ | refine aRet ?_); try simp only [slx, ↓reduceIte, jA, reduceCtorEq] | (first | refine aReg ?_ | refine aIf ?_); simp -implicitDefEqProofs only [forall_eq, ↓slp, slb, ↓reduceIte, reduceCtorEq, jA, jB, jC, jD, jE, jF, jG, jH, jI, jJ, jK, tfCrL]; try simp only [fo] | refine hX _ _ ?_; clear hX X | clear hX X; refine hX _ _ ?_; clear hX X | clear hX X; clear hX X; refine hX _ _ ?_; clear hX X | intro hlen; unfold maxLen at hlen | apply And.intro; focus (first | omega | assumption | (repeat' apply And.intro) <;> first | omega | assumption)))
  obtain ⟨I, hI⟩ : ∃ I : F → M → Prop, ∀ f m', I f m' = (∃ k : Nat, k ≤ ns.length ∧ f 1 = .ep [.sl .no E, .sl .no (ns.map No.pv)] ∧ f 3 = .bp m.nb 0 ∧ f 4 = pI k ∧ BaseR m m' ∧ m'.get m.nb = some [.v (.int .i64 0), .v (.int .i64 0)] ∧ ∀ g ∈ (ns.take k).map (gOf 0), ∀ i, ¬ Bad g i) := ⟨_, fun _ _ => rfl⟩
  refine aLoop I (fun f m => ns.length - numOf (f 4)) ?_ ?_
  · rw [hI]; exact ⟨0, by omega, rfl, rfl, rfl, (BaseR.refl m).push _, by show (m.push _).get m.nb = _; rw [M.get_push, if_pos rfl], fun g hg => by simp at hg⟩
  intro f m' hrel
  rw [hI] at hrel
  obtain ⟨k, hk, f1, f3, f4, hB, hb3, hgd⟩ := hrel
  cases c1 : decide ((k : Int) < (ns.length : Int)) with
  | false =>
    obtain rfl : k = ns.length := by simp at c1; omega
    rw [List.take_length] at hgd
    (repeat (first | refine aSeq fun X hX => ?_ | refine aBlk ?_ | refine aSkip ?_ | (first | refine aExit ?_ | refine aRet ?_); try simp only [slx, ↓reduceIte, jA, reduceCtorEq] | (first | refine aReg ?_ | refine aIf ?_); simp -implicitDefEqProofs only [forall_eq, ↓slp, slb, ↓reduceIte, reduceCtorEq, jA, jB, jC, jD, jE, jF, jG, jH, jI, jJ, jK, tfCrL, f1, f3, f4, pI, c1, hb3, Nat.zero_add, gt_iff_lt, List.length_cons]; try simp only [fo] | refine hX _ _ ?_; clear hX X | clear hX X; refine hX _ _ ?_; clear hX X | clear hX X; clear hX X; refine hX _ _ ?_; clear hX X | intro hlen; unfold maxLen at hlen | apply And.intro; focus (first | omega | assumption | (repeat' apply And.intro) <;> first | omega | assumption)))
    have hbu : (m'.upd m.nb [.v (.int .i64 0), .v (.int .i64 0)]).get m.nb = some [.v (.int .i64 0), .v (.int .i64 0)] := by rw [M.get_upd, if_pos ⟨rfl, M.get_lt hb3⟩]
    have hB2 := hB.upd (Nat.le_refl m.nb) [.v (.int .i64 0), .v (.int .i64 0)]
    simp only [aPost, Tryd.results7, aRes_n, aRes_t, aRes_c, pack_one, pack_two]
    simp -implicitDefEqProofs only [↓slp, slb, ↓reduceIte, reduceCtorEq, jA, jB, jC, jD, jE, jF, jG, jH, jI, jJ, jK, tfCrL, f3, hbu]; try simp only [fo]
    exact leave_plain hB2.boxes hB2.toks rfl ⟨none, rfl, .inl ⟨rfl, hgd⟩, rfl⟩
  | true =>
    have hlt : k < ns.length := by simpa using c1
    have g0 := getD_map No.pv ns k hlt
    have hi : IntKind.i64.wrap ((k : Int) + 1) = ((k + 1 : Nat) : Int) := by rw [wrap64 (by omega)]; omega
    have hme : numOf (f 4) = k := by rw [f4]; exact Int.toNat_natCast k
    obtain ⟨hrf, hcn⟩ := hn _ (List.getElem_mem hlt)
    have hof := rof_any ns[k] hrf m'
    have hpos := hcn.pos
    have hlen := hcn.len
    rw [No.pv.eq_1] at hof
    (repeat (first | refine aSeq fun X hX => ?_ | refine aBlk ?_ | refine aSkip ?_ | (first | refine aExit ?_ | refine aRet ?_); try simp only [slx, ↓reduceIte, jA, reduceCtorEq] | (first | refine aReg ?_ | refine aIf ?_); simp -implicitDefEqProofs only [forall_eq, ↓slp, slb, ↓reduceIte, reduceCtorEq, jA, jB, jC, jD, jE, jF, jG, jH, jI, jJ, jK, tfCrL, f1, f3, f4, pI, c1, g0, Nat.zero_add, gt_iff_lt, List.length_cons]; try simp only [fo] | refine hX _ _ ?_; clear hX X | clear hX X; refine hX _ _ ?_; clear hX X | clear hX X; clear hX X; refine hX _ _ ?_; clear hX X | intro hlen; unfold maxLen at hlen | apply And.intro; focus (first | omega | assumption | (repeat' apply And.intro) <;> first | omega | assumption)))
    refine callM hof ?_
    rintro v m2 ⟨rfl, ⟨P, ids, T, hR, hT⟩, hst⟩
    have hsplit : ns.map (gOf 0) = (ns.take k).map (gOf 0) ++ gOf 0 ns[k] :: (ns.drop (k + 1)).map (gOf 0) := by
      rw [← List.map_cons, ← List.map_append, ← List.drop_eq_getElem_cons hlt, List.take_append_drop]
    have hnxt : (ns.take (k + 1)).map (gOf 0) = (ns.take k).map (gOf 0) ++ [gOf 0 ns[k]] := by rw [List.take_succ_eq_append_getElem hlt, List.map_append]; rfl
    generalize gOf 0 ns[k] = g at *
    have hB2 : BaseR m m2 := hB.trans hR.base
    have hb4 : m2.get m.nb = some [.v (.int .i64 0), .v (.int .i64 0)] := by rw [hR.base.get (M.get_lt hb3)]; exact hb3
    obtain ⟨o1, o2, o4, nid, cap, c, b1, d4, hat⟩ := hR.look hpos
    simp -implicitDefEqProofs only [↓slp, slb, ↓reduceIte, reduceCtorEq, jA, jB, jC, jD, jE, jF, jG, jH, jI, jJ, jK, tfCrL]; try simp only [fo]
    (repeat (first | refine aSeq fun X hX => ?_ | refine aBlk ?_ | refine aSkip ?_ | (first | refine aExit ?_ | refine aRet ?_); try simp only [slx, ↓reduceIte, jA, reduceCtorEq] | (first | refine aReg ?_ | refine aIf ?_); simp -implicitDefEqProofs only [forall_eq, ↓slp, slb, ↓reduceIte, reduceCtorEq, jA, jB, jC, jD, jE, jF, jG, jH, jI, jJ, jK, tfCrL]; try simp only [fo] | refine hX _ _ ?_; clear hX X | clear hX X; refine hX _ _ ?_; clear hX X | clear hX X; clear hX X; refine hX _ _ ?_; clear hX X | intro hlen; unfold maxLen at hlen | apply And.intro; focus (first | omega | assumption | (repeat' apply And.intro) <;> first | omega | assumption)))
    obtain ⟨J, hJ⟩ : ∃ J : F → M → Prop, ∀ f mx, J f mx = (∃ j : Nat, j ≤ g.vs.length ∧ f 1 = .ep [.sl .no E, .sl .no (ns.map No.pv)] ∧ f 3 = .bp m.nb 0 ∧ f 4 = pI k ∧ f 5 = .bp m'.nb 0 ∧ f 6 = pI j ∧ mx = m2 ∧ ∀ i, i < j → ¬ Bad g i) := ⟨_, fun _ _ => rfl⟩
    refine aLoop J (fun f m => g.vs.length - numOf (f 6)) ?_ ?_
    · rw [hJ]; exact ⟨0, by omega, f1, f3, f4, rfl, rfl, rfl, fun i hi => by omega⟩
    clear f1 f3 f4
    intro f mx hrel
    rw [hJ] at hrel
    obtain ⟨j, hj, f1, f3, f4, f5, f6, rfl, hgj⟩ := hrel
    cases c2 : decide ((j : Int) < (g.vs.length : Int)) with
    | false =>
      (repeat (first | refine aSeq fun X hX => ?_ | refine aBlk ?_ | refine aSkip ?_ | (first | refine aExit ?_ | refine aRet ?_); try simp only [slx, ↓reduceIte, jA, reduceCtorEq] | (first | refine aReg ?_ | refine aIf ?_); simp -implicitDefEqProofs only [forall_eq, ↓slp, slb, ↓reduceIte, reduceCtorEq, jA, jB, jC, jD, jE, jF, jG, jH, jI, jJ, jK, tfCrL, f1, f3, f4, f5, f6, pI, c2, b1, hi, Nat.zero_add, gt_iff_lt, List.length_cons]; try simp only [fo] | refine hX _ _ ?_; clear hX X | clear hX X; refine hX _ _ ?_; clear hX X | clear hX X; clear hX X; refine hX _ _ ?_; clear hX X | intro hlen; unfold maxLen at hlen | apply And.intro; focus (first | omega | assumption | (repeat' apply And.intro) <;> first | omega | assumption)))
      rw [hI]
      obtain rfl : j = g.vs.length := by simp at c2; omega
      exact ⟨⟨k + 1, hlt, f1, f3, rfl, hB2, hb4, fun g' hg' => by
        rw [hnxt] at hg'
        rcases List.mem_append.1 hg' with h | h
        · exact hgd g' h
        · rw [List.mem_singleton] at h
          subst h
          exact fun i hbd => hgj i hbd.1 hbd⟩, by omega⟩
    | true =>
      have hltj : j < g.vs.length := by simpa using c2
      have hij : IntKind.i64.wrap ((j : Int) + 1) = ((j + 1 : Nat) : Int) := by rw [wrap64 (by omega)]; omega
      have hmej : numOf (f 6) = j := by rw [f6]; exact Int.toNat_natCast j
      obtain ⟨ca, cla⟩ := hat j hltj
      have ra := (hR.rows j hltj).2.2
      have rl := rowT_len g.vs.length T j
      have rt := rowT_at T j hltj
      have hTj := hT j j hltj hltj
      cases h1 : T j j with
      | false =>
        rw [h1] at rt hTj
        (repeat (first | refine aSeq fun X hX => ?_ | refine aBlk ?_ | refine aSkip ?_ | (first | refine aExit ?_ | refine aRet ?_); try simp only [slx, ↓reduceIte, jA, reduceCtorEq] | (first | refine aReg ?_ | refine aIf ?_); simp -implicitDefEqProofs only [forall_eq, ↓slp, slb, ↓reduceIte, reduceCtorEq, jA, jB, jC, jD, jE, jF, jG, jH, jI, jJ, jK, tfCrL, f1, f3, f4, f5, f6, pI, pB, c2, b1, d4, ca, cla, ra, rl, rt, hltj, hij, Nat.mul_one, Nat.zero_add, gt_iff_lt, List.length_cons]; try simp only [fo] | refine hX _ _ ?_; clear hX X | clear hX X; refine hX _ _ ?_; clear hX X | clear hX X; clear hX X; refine hX _ _ ?_; clear hX X | intro hlen; unfold maxLen at hlen | apply And.intro; focus (first | omega | assumption | (repeat' apply And.intro) <;> first | omega | assumption)))
        rw [hJ]
        exact ⟨⟨j + 1, hltj, f1, f3, f4, f5, rfl, rfl, fun i hi hbd => by
          rcases Nat.lt_or_ge i j with h | h
          · exact hgj i h hbd
          · obtain rfl : i = j := by omega
            exact absurd (hTj.2 hbd.2) (by simp)⟩, by omega⟩
      | true =>
        rw [h1] at rt hTj
        (repeat (first | refine aSeq fun X hX => ?_ | refine aBlk ?_ | refine aSkip ?_ | (first | refine aExit ?_ | refine aRet ?_); try simp only [slx, ↓reduceIte, jA, reduceCtorEq] | (first | refine aReg ?_ | refine aIf ?_); simp -implicitDefEqProofs only [forall_eq, ↓slp, slb, ↓reduceIte, reduceCtorEq, jA, jB, jC, jD, jE, jF, jG, jH, jI, jJ, jK, tfCrL, f1, f3, f4, f5, f6, pI, pB, c2, b1, d4, ca, cla, ra, rl, rt, hltj, hij, Nat.mul_one, Nat.zero_add, gt_iff_lt, List.length_cons]; try simp only [fo] | refine hX _ _ ?_; clear hX X | clear hX X; refine hX _ _ ?_; clear hX X | clear hX X; clear hX X; refine hX _ _ ?_; clear hX X | intro hlen; unfold maxLen at hlen | apply And.intro; focus (first | omega | assumption | (repeat' apply And.intro) <;> first | omega | assumption)))
        have gA : ((g.vs.map fun v => (v.line, v.col)).map pQ).getD j .junk = pQ (g.vs[j].line, g.vs[j].col) := by
          rw [getD_map pQ (g.vs.map fun v => (v.line, v.col)) j (by rw [List.length_map]; exact hltj), List.getElem_map]
        have hAl : ((g.vs.map fun v => (v.line, v.col)).length) = g.vs.length := List.length_map ..
        obtain ⟨A, hA⟩ : ∃ A, (g.vs.map fun v => (v.line, v.col)) = A := ⟨_, rfl⟩
        rw [hA] at gA hAl b1
        have hp1 : ∀ y : Subtype (fun m2 : M => m2.get m'.nb = some [.sl o1 ((nmG g).map pS), .sl o2 (A.map pQ), .gs nid g.vs.length cap, .sl o4 (P.map pQ)]), y.1.get m'.nb = some [.sl o1 ((nmG g).map pS), .sl o2 (A.map pQ), .gs nid g.vs.length cap, .sl o4 (P.map pQ)] := fun y => y.2
        refine aDrwE (isP (fun m2 : M => m2.get m'.nb = some [.sl o1 ((nmG g).map pS), .sl o2 (A.map pQ), .gs nid g.vs.length cap, .sl o4 (P.map pQ)])) (hne := List.cons_ne_nil _ _) rfl (by kernel_rfl) (by kernel_rfl) (isP_of b1) ?_
        simp -implicitDefEqProofs only [↓slp, slb, ↓reduceIte, reduceCtorEq, jA, jB, jC, jD, jE, jF, jG, jH, jI, jJ, jK, tfCrL, f1, f3, f4, f5, f6, pI, isP_all, b1, hp1, gA, hAl, hltj, hb4, Nat.zero_add, gt_iff_lt, forall_const, List.dropLast_cons_cons, List.dropLast_singleton, List.getLast_cons_cons, List.getLast_singleton, List.set_cons_succ, List.set_cons_zero, List.getElem?_cons_succ, List.getElem?_cons_zero, List.getElem_cons_succ, List.getElem_cons_zero, List.length_cons]; try simp only [fo]
        have hbu : (mx.upd m.nb [.v (.int .i64 g.vs[j].line), .v (.int .i64 g.vs[j].col)]).get m.nb = some [.v (.int .i64 g.vs[j].line), .v (.int .i64 g.vs[j].col)] := by rw [M.get_upd, if_pos ⟨rfl, M.get_lt hb4⟩]
        have hB3 := hB2.upd (Nat.le_refl m.nb) [.v (.int .i64 g.vs[j].line), .v (.int .i64 g.vs[j].col)]
        refine hX _ _ ?_
        clear hX X
        (repeat (first | refine aSeq fun X hX => ?_ | refine aBlk ?_ | refine aSkip ?_ | (first | refine aExit ?_ | refine aRet ?_); try simp only [slx, ↓reduceIte, jA, reduceCtorEq] | (first | refine aReg ?_ | refine aIf ?_); simp -implicitDefEqProofs only [forall_eq, ↓slp, slb, ↓reduceIte, reduceCtorEq, jA, jB, jC, jD, jE, jF, jG, jH, jI, jJ, jK, tfCrL]; try simp only [fo] | refine hX _ _ ?_; clear hX X | clear hX X; refine hX _ _ ?_; clear hX X | clear hX X; clear hX X; refine hX _ _ ?_; clear hX X | intro hlen; unfold maxLen at hlen | apply And.intro; focus (first | omega | assumption | (repeat' apply And.intro) <;> first | omega | assumption)))
        simp only [aPost, Tryd.results7, aRes_n, aRes_t, aRes_c, pack_one, pack_two]
        simp -implicitDefEqProofs only [↓slp, slb, ↓reduceIte, reduceCtorEq, jA, jB, jC, jD, jE, jF, jG, jH, jI, jJ, jK, tfCrL, f3, hbu]; try simp only [fo]
        exact leave_plain hB3.boxes hB3.toks rfl ⟨some g.vs[j], rfl, .inr ⟨_, g, _, j, hltj, hsplit, hgd, ⟨hltj, hTj.1 rfl⟩, hgj, rfl⟩, rfl⟩
end Go.Proofs.YtaealemhegdmpaaDoor

/-
  The law CausesChains.
-/
set_option linter.unusedVariables false
set_option linter.unusedSimpArgs false
namespace Go.Proofs.YtaealemhegdmpaaDoor
open Nat renaming reduceEqDiff → jA, reduceAdd → jB, reduceMul → jC, reduceLT → jD, reduceLeDiff → jE, reduceBEq → jF, reduceBNe → jG
open Int renaming reduceLE → jH, reduceLT → jI, reduceToNat → jJ, reduceEq → jK
open Go
-- EXX: No.settle_pv, No.pure_pv, No.cells_pv, No.cs, No.pv.eq_1
set_option maxRecDepth 20000
-- TNAMES: int; uint8; int32; string; bool; []uint8; []bool; api.Node; []api.Node; api.Enum; []api.Enum; api.Program; error; api.Kind; api.Pos
set_option linter.defProp false
def tfCrM := tfCrO

set_option maxHeartbeats 8000000 in
theorem chainsLaw_any (l : List Int) (hel : ∀ x ∈ l, 0 ≤ x ∧ x ≤ 255) (kp : List Bool) :
    ACalls Tryd.prog 3 [.sl .no (l.map chU), .sl .no (kp.map pB)] M0 (fun v m' => v = .v (.bool true)) := by
  have hp := fun m => program_any l hel kp m
  have hc := fun m => ccheck_any 0 [chP l kp] [] .no (fun n hn => by rw [List.mem_singleton] at hn; subst hn; exact csn_ch _ _) m
  have hr := fun m => rcheck_any [chP l kp] [] (by simp) (fun n hn => by rw [List.mem_singleton] at hn; subst hn; exact ⟨rfn_ch _ _, csn_ch _ _⟩) m
  refine ACalls.enter (mu := [5, 8]) ok_mix Tryd.func3 rfl (by kernel_rfl) (by kernel_rfl) (by simp only [List.length_cons, List.length_nil, Tryd.ntmps3]; omega) ?_
  (repeat (first | refine aSeq fun X hX => ?_ | refine aBlk ?_ | refine aSkip ?_ | (first | refine aExit ?_ | refine aRet ?_); try simp only [slx, ↓reduceIte, jA, reduceCtorEq] | (first | refine aReg ?_ | refine aIf ?_); simp -implicitDefEqProofs only [forall_eq, ↓slp, slb, ↓reduceIte, reduceCtorEq, jA, jB, jC, jD, jE, jF, jG, jH, jI, jJ, jK, tfCrM]; try simp only [fo] | refine hX _ _ ?_; clear hX X | clear hX X; refine hX _ _ ?_; clear hX X | clear hX X; clear hX X; refine hX _ _ ?_; clear hX X | intro hlen; unfold maxLen at hlen | apply And.intro; focus (first | omega | assumption | (repeat' apply And.intro) <;> first | omega | assumption)))
  refine callE (awake_any _) ?_
  simp -implicitDefEqProofs only [↓slp, slb, ↓reduceIte, reduceCtorEq, jA, jB, jC, jD, jE, jF, jG, jH, jI, jJ, jK, tfCrM]; try simp only [fo]
  (repeat (first | refine aSeq fun X hX => ?_ | refine aBlk ?_ | refine aSkip ?_ | (first | refine aExit ?_ | refine aRet ?_); try simp only [slx, ↓reduceIte, jA, reduceCtorEq] | (first | refine aReg ?_ | refine aIf ?_); simp -implicitDefEqProofs only [forall_eq, ↓slp, slb, ↓reduceIte, reduceCtorEq, jA, jB, jC, jD, jE, jF, jG, jH, jI, jJ, jK, tfCrM]; try simp only [fo] | refine hX _ _ ?_; clear hX X | clear hX X; refine hX _ _ ?_; clear hX X | clear hX X; clear hX X; refine hX _ _ ?_; clear hX X | intro hlen; unfold maxLen at hlen | apply And.intro; focus (first | omega | assumption | (repeat' apply And.intro) <;> first | omega | assumption)))
  refine callMS (hp _) (by simp only [List.map_cons, List.map_nil, PV.settle, PV.settles]) ?_
  rintro v mv ⟨rfl, rfl⟩
  unfold chPv
  simp -implicitDefEqProofs only [↓slp, slb, ↓reduceIte, reduceCtorEq, jA, jB, jC, jD, jE, jF, jG, jH, jI, jJ, jK, tfCrM]; try simp only [fo]
  (repeat (first | refine aSeq fun X hX => ?_ | refine aBlk ?_ | refine aSkip ?_ | (first | refine aExit ?_ | refine aRet ?_); try simp only [slx, ↓reduceIte, jA, reduceCtorEq] | (first | refine aReg ?_ | refine aIf ?_); simp -implicitDefEqProofs only [forall_eq, ↓slp, slb, ↓reduceIte, reduceCtorEq, jA, jB, jC, jD, jE, jF, jG, jH, jI, jJ, jK, tfCrM]; try simp only [fo] | refine hX _ _ ?_; clear hX X | clear hX X; refine hX _ _ ?_; clear hX X | clear hX X; clear hX X; refine hX _ _ ?_; clear hX X | intro hlen; unfold maxLen at hlen | apply And.intro; focus (first | omega | assumption | (repeat' apply And.intro) <;> first | omega | assumption)))
  refine callM (hc _) ?_
  rintro v mv ⟨r, rfl, hr1, rfl⟩
  simp -implicitDefEqProofs only [↓slp, slb, ↓reduceIte, reduceCtorEq, jA, jB, jC, jD, jE, jF, jG, jH, jI, jJ, jK, tfCrM]; try simp only [fo]
  (repeat (first | refine aSeq fun X hX => ?_ | refine aBlk ?_ | refine aSkip ?_ | (first | refine aExit ?_ | refine aRet ?_); try simp only [slx, ↓reduceIte, jA, reduceCtorEq] | (first | refine aReg ?_ | refine aIf ?_); simp -implicitDefEqProofs only [forall_eq, ↓slp, slb, ↓reduceIte, reduceCtorEq, jA, jB, jC, jD, jE, jF, jG, jH, jI, jJ, jK, tfCrM]; try simp only [fo] | refine hX _ _ ?_; clear hX X | clear hX X; refine hX _ _ ?_; clear hX X | clear hX X; clear hX X; refine hX _ _ ?_; clear hX X | intro hlen; unfold maxLen at hlen | apply And.intro; focus (first | omega | assumption | (repeat' apply And.intro) <;> first | omega | assumption)))
  refine callM (hr _) ?_
  rintro v mv ⟨r', rfl, hr2, rfl⟩
  obtain rfl := fst_uniq hr1 hr2
  clear hr1 hr2 hc hr hp
  cases r with
  | none =>
    simp -implicitDefEqProofs only [↓slp, slb, ↓reduceIte, reduceCtorEq, jA, jB, jC, jD, jE, jF, jG, jH, jI, jJ, jK, tfCrM, posV, errV, Option.isSome_none]; try simp only [fo]
    (repeat (first | refine aSeq fun X hX => ?_ | refine aBlk ?_ | refine aSkip ?_ | (first | refine aExit ?_ | refine aRet ?_); try simp only [slx, ↓reduceIte, jA, reduceCtorEq] | (first | refine aReg ?_ | refine aIf ?_); simp -implicitDefEqProofs only [forall_eq, ↓slp, slb, ↓reduceIte, reduceCtorEq, jA, jB, jC, jD, jE, jF, jG, jH, jI, jJ, jK, tfCrM, posV, errV, pB]; try simp only [fo] | refine hX _ _ ?_; clear hX X | clear hX X; refine hX _ _ ?_; clear hX X | clear hX X; clear hX X; refine hX _ _ ?_; clear hX X | intro hlen; unfold maxLen at hlen | apply And.intro; focus (first | omega | assumption | (repeat' apply And.intro) <;> first | omega | assumption)))
    refine aDrE ?_
    simp -implicitDefEqProofs only [↓slp, slb, ↓reduceIte, reduceCtorEq, jA, jB, jC, jD, jE, jF, jG, jH, jI, jJ, jK, tfCrM, forall_eq]; try simp only [fo]
    (repeat (first | refine aSeq fun X hX => ?_ | refine aBlk ?_ | refine aSkip ?_ | (first | refine aExit ?_ | refine aRet ?_); try simp only [slx, ↓reduceIte, jA, reduceCtorEq] | (first | refine aReg ?_ | refine aIf ?_); simp -implicitDefEqProofs only [forall_eq, ↓slp, slb, ↓reduceIte, reduceCtorEq, jA, jB, jC, jD, jE, jF, jG, jH, jI, jJ, jK, tfCrM]; try simp only [fo] | refine hX _ _ ?_; clear hX X | clear hX X; refine hX _ _ ?_; clear hX X | clear hX X; clear hX X; refine hX _ _ ?_; clear hX X | intro hlen; unfold maxLen at hlen | apply And.intro; focus (first | omega | assumption | (repeat' apply And.intro) <;> first | omega | assumption)))
    simp only [aPost, Tryd.results3, aRes_n, aRes_t, aRes_c, pack_one, pack_two]
    exact leave_plain rfl rfl rfl rfl
  | some x =>
    simp -implicitDefEqProofs only [↓slp, slb, ↓reduceIte, reduceCtorEq, jA, jB, jC, jD, jE, jF, jG, jH, jI, jJ, jK, tfCrM, posV, errV, Option.isSome_some]; try simp only [fo]
    (repeat (first | refine aSeq fun X hX => ?_ | refine aBlk ?_ | refine aSkip ?_ | (first | refine aExit ?_ | refine aRet ?_); try simp only [slx, ↓reduceIte, jA, reduceCtorEq] | (first | refine aReg ?_ | refine aIf ?_); simp -implicitDefEqProofs only [forall_eq, ↓slp, slb, ↓reduceIte, reduceCtorEq, jA, jB, jC, jD, jE, jF, jG, jH, jI, jJ, jK, tfCrM, posV, errV, pB]; try simp only [fo] | refine hX _ _ ?_; clear hX X | clear hX X; refine hX _ _ ?_; clear hX X | clear hX X; clear hX X; refine hX _ _ ?_; clear hX X | intro hlen; unfold maxLen at hlen | apply And.intro; focus (first | omega | assumption | (repeat' apply And.intro) <;> first | omega | assumption)))
    refine aDrE ?_
    simp -implicitDefEqProofs only [↓slp, slb, ↓reduceIte, reduceCtorEq, jA, jB, jC, jD, jE, jF, jG, jH, jI, jJ, jK, tfCrM, forall_eq]; try simp only [fo]
    refine callE (where_at10 _ _ _) ?_
    simp -implicitDefEqProofs only [↓slp, slb, ↓reduceIte, reduceCtorEq, jA, jB, jC, jD, jE, jF, jG, jH, jI, jJ, jK, tfCrM, forall_eq]; try simp only [fo]
    (repeat (first | refine aSeq fun X hX => ?_ | refine aBlk ?_ | refine aSkip ?_ | (first | refine aExit ?_ | refine aRet ?_); try simp only [slx, ↓reduceIte, jA, reduceCtorEq] | (first | refine aReg ?_ | refine aIf ?_); simp -implicitDefEqProofs only [forall_eq, ↓slp, slb, ↓reduceIte, reduceCtorEq, jA, jB, jC, jD, jE, jF, jG, jH, jI, jJ, jK, tfCrM]; try simp only [fo] | refine hX _ _ ?_; clear hX X | clear hX X; refine hX _ _ ?_; clear hX X | clear hX X; clear hX X; refine hX _ _ ?_; clear hX X | intro hlen; unfold maxLen at hlen | apply And.intro; focus (first | omega | assumption | (repeat' apply And.intro) <;> first | omega | assumption)))
    simp only [aPost, Tryd.results3, aRes_n, aRes_t, aRes_c, pack_one, pack_two]
    exact leave_plain rfl rfl rfl rfl
end Go.Proofs.YtaealemhegdmpaaDoor

/-
  Lists of truths, by their type.
-/
set_option linter.unusedVariables false
set_option linter.unusedSimpArgs false
namespace Go.Proofs.YtaealemhegdmpaaDoor
open Go

theorem bools_of {P : Program} {t e : TypeId} (h : P.underlying t = some (.slice e)) (he : P.underlying e = some .bool) {n : Nat} {p : List PV} (hh : TyCs P n t p) : ∃ l : List Bool, p = [.sl .no (l.map fun i => .v (.bool i))] := by
  have ha : aggT P e = false := by simp [aggT, he]
  cases n with
  | zero => exact hh.elim
  | succ n =>
    simp only [TyCs, h] at hh
    obtain ⟨xs, rfl, _, h3⟩ := hh
    have key : ∀ x ∈ xs, ∃ i : Bool, x = .v (.bool i) := fun x hx => by
      obtain ⟨h1, h2⟩ := h3 x hx
      rw [if_neg (by simp [ha])] at h2
      cases n with
      | zero => exact h1.elim
      | succ n =>
        obtain ⟨i, e1⟩ := bool_of he h1
        rw [h2] at e1
        exact ⟨i, by simpa using e1⟩
    obtain ⟨l, rfl⟩ := list_of (fun i : Bool => PV.v (.bool i)) key
    exact ⟨l, rfl⟩
end Go.Proofs.YtaealemhegdmpaaDoor
