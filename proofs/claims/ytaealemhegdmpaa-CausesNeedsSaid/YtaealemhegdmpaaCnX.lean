/-
 Texts that belong together: CnN, CnL.
-/
-- halved
import Derived.Test.YtaealemhegdmpaaCgE
import Derived.Test.YtaealemhegdmpaaCrA
import Derived.Test.YtaealemhegdmpaaCrZ
import Derived.Test.YtaealemhegdmpaaCrY
import Derived.Test.YtaealemhegdmpaaCgD
/-
 causes.Needs: the variables, and what each needs.
-/
set_option linter.unusedVariables false
set_option linter.unusedSimpArgs false
namespace Go.Proofs.Ytaealemhegdmpaa
open Nat renaming reduceEqDiff → jA, reduceAdd → jB, reduceMul → jC, reduceLT → jD, reduceLeDiff → jE, reduceBEq → jF, reduceBNe → jG
open Int renaming reduceLE → jH, reduceLT → jI, reduceToNat → jJ, reduceEq → jK
open Go
-- EXX: No.settle_pv, No.pure_pv, No.cells_pv, No.cs, No.pv.eq_1
set_option maxRecDepth 20000
-- TNAMES: int; uint8; int32; string; bool; []string; []api.Expr; api.Expr; api.Pos; api.Type; api.On; []api.On; api.Var; []api.Var; []int; [][]int; api.Equation; []api.Equation; api.Block; api.Node; causes.graph; []causes.vertex; causes.vertex; causes.scope; *causes.graph


/-- What a vertex needs among the first ones. -/
def rowN (T : Nat → Nat → Bool) (a k : Nat) : List Nat := (List.range k).filter (T a)
theorem rowN_succ (T : Nat → Nat → Bool) (a k : Nat) : rowN T a (k + 1) = rowN T a k ++ if T a k = true then [k] else [] := by
 unfold rowN
 rw [List.range_succ, List.filter_append]
 congr 1
 by_cases h : T a k = true <;> simp [h]
theorem rowN_len (T : Nat → Nat → Bool) (a k : Nat) : (rowN T a k).length ≤ k := by
 have := List.length_filter_le (T a) (List.range k)
 rwa [List.length_range] at this
theorem natsO (l : List Nat) : ∀ x ∈ l.map pN, x.cells.length = 1 := fun x hx => by obtain ⟨s, _, rfl⟩ := List.mem_map.1 hx; rfl
theorem strsO (l : List Str) : ∀ x ∈ l.map pS, x.cells.length = 1 := fun x hx => by obtain ⟨s, _, rfl⟩ := List.mem_map.1 hx; rfl
def pRow (T : Nat → Nat → Bool) (n a : Nat) : PV := .sl .no ((rowN T a n).map pN)
theorem rowsO (T : Nat → Nat → Bool) (n : Nat) (l : List Nat) : ∀ x ∈ l.map (pRow T n), x.cells.length = 1 := fun x hx => by obtain ⟨s, _, rfl⟩ := List.mem_map.1 hx; rfl
set_option maxHeartbeats 4000000 in
theorem cneeds_any (d : Nat) (n : No) (hn : CsN d n) (m : M) : ACalls Try.prog 8 [n.pv] m (fun v m' => ∃ T : Nat → Nat → Bool, (∀ a b, T a b = true ↔ TG (gOf d n).E a b) ∧ v = .tp [.sl .no ((nmG (gOf d n)).map pS), .sl .no ((List.range (gOf d n).vs.length).map (pRow T (gOf d n).vs.length))] ∧ m' = m) := by
 have hof := of_any d n hn m
 rw [No.pv.eq_1] at hof
 have hlen := hn.len
 have hpos := hn.pos
 generalize gOf d n = g at *
 obtain ⟨T, hT⟩ : ∃ T : Nat → Nat → Bool, ∀ a b, T a b = true ↔ TG g.E a b := ⟨fun a b => @decide (TG g.E a b) (Classical.propDecidable _), fun a b => by simp⟩
 refine ACalls.enter (mu := []) ok_mix Try.func8 rfl (by kernel_rfl) (by kernel_rfl) (by simp only [List.length_cons, List.length_nil, Try.ntmps8]; omega) ?_
 (repeat (first | refine aSeq fun X hX => ?_ | refine aReg ?_; simp -implicitDefEqProofs only [↓slp, ↓reduceIte, jA, jB, jE, Yd] | apply hX; clear hX X))
 refine callM hof ?_
 rintro v mc ⟨rfl, q1, q2⟩
 simp -implicitDefEqProofs only [↓slp, slb, ↓reduceIte]
 have q1' := q1
 obtain ⟨L, h1, h2⟩ := q1'
 have hvl := h2.len
 have hB := q1.base
 rcases h1.box with ⟨h0, b1⟩ | ⟨lid, cap, c, b0, b0', b1, b2, b3, b4, b5, b6⟩
 ·have h00 : g.vs.length = 0 := by rw [hvl, h0]; rfl
  omega
 rw [← hvl] at b1
 (repeat (first | refine aSeq fun X hX => ?_ | refine aBlk ?_ | refine aReg ?_; simp -implicitDefEqProofs only [↓slp, ↓reduceIte, reduceCtorEq, jA, jB, Yd, b1, exists_eq'] | apply hX; clear hX X))
 obtain ⟨I, hI⟩ : ∃ I : F → M → Prop, ∀ f m2, I f m2 = (∃ (j : Nat) (oN oR : Own), j ≤ g.vs.length ∧ f 4 = .bp m.nb 0 ∧ f 5 = .sl oN ((nmG g).take j |>.map pS) ∧ f 6 = .sl oR ((List.range j).map (pRow T g.vs.length)) ∧ f 16 = .gs lid g.vs.length cap ∧ f 17 = pI g.vs.length ∧ f 18 = pI j ∧ Toks mc m2 ∧ Mine mc m2 oN 1 ∧ Mine mc m2 oR 1 ∧ ∀ t, oN = .tok t → oR ≠ .tok t) := ⟨_, fun _ _ => rfl⟩
 refine aLoop I (fun f m => g.vs.length - numOf (f 18)) ?_ ?_
 ·rw [hI]; exact ⟨0, .full, .full, by omega, rfl, rfl, rfl, rfl, rfl, rfl, .refl _, .full, .full, fun t h => by cases h⟩
 intro f m2 hrel
 rw [hI] at hrel
 obtain ⟨j, oN, oR, hj, f4, f5, f6, f16, f17, f18, htk, hmN, hmR, hne⟩ := hrel
 cases c1 : decide ((j : Int) < (g.vs.length : Int)) with
 | false =>
  obtain rfl : j = g.vs.length := by simp at c1; omega
  rw [List.take_of_length_le (by simp)] at f5
  (repeat (first | refine aSeq fun X hX => ?_ | (first | refine aExit ?_ | refine aRet ?_); try simp only [slx, ↓reduceIte, jA, reduceCtorEq] | (first | apply aReg | apply aIf); simp -implicitDefEqProofs only [↓slp, slb, ↓reduceIte, jA, f5, f6, f17, f18, pI, c1] | apply hX; clear hX X | clear hX X; apply hX; clear hX X))
  simp only [aPost, Try.results8, aRes_n, aRes_t, aRes_c, pack_one, pack_two]
  simp -implicitDefEqProofs only [slb, ↓reduceIte, jA]
  have hB2 := (q1.toks htk).base
  exact leave_plain hB2.boxes hB2.toks rfl ⟨T, hT, rfl, rfl⟩
 | true =>
  have hlt : j < g.vs.length := by simpa using c1
  have hi : IntKind.i64.wrap ((j : Int) + 1) = ((j + 1 : Nat) : Int) := by rw [wrap64 (by omega)]; omega
  have hme : numOf (f 18) = j := by rw [f18]; exact Int.toNat_natCast j
  obtain ⟨s1, s2⟩ := gseg b5 (k := j) (by omega)
  have hbx : m2.boxes = mc.boxes := htk.boxes
  have hgt : ∀ k, m2.get k = mc.get k := fun k => by unfold M.get; rw [hbx]
  have b2' : m2.get lid = some c := (hgt lid).trans b2
  have hfN := hmN.free
  have h11 := strsO ((nmG g).take j)
  have hmx : ((nmG g).take j).length + 1 ≤ maxLen := by rw [List.length_take]; unfold maxLen; simp; omega
  have hmb : ((nmG g).take j).length ≤ 4000000 := by rw [List.length_take]; simp; omega
  have hnx : (nmG g).take (j + 1) = (nmG g).take j ++ [L[j].name] := by
   rw [List.take_succ_eq_append_getElem (by simpa using hlt)]
   congr 2
   have := h2.vs
   simp only [← this, List.getElem_map]; rfl
  generalize hNj : (nmG g).take j = Nj at *
  have t1 := htk.use (s := 1) hmN
  have n1 : Mine mc ((oN.use m2).fresh 1) (.tok m2.nt) 1 := Mine.new htk oN 1
  have r1 : Mine mc ((oN.use m2).fresh 1) oR 1 := hmR.other (fun t ht => hne t ht)
  have hnr : ∀ t, Own.tok m2.nt = .tok t → oR ≠ .tok t := hmR.ne_new
  have b1N : ((oN.use m2).fresh 1).get m.nb = some [.gs lid g.vs.length cap] := by rw [use_get, hgt]; exact b1
  (repeat (first | refine aSeq fun X hX => ?_ | refine aBlk ?_ | refine aSkip ?_ | (first | apply aReg | apply aIf); simp -implicitDefEqProofs only [forall_eq, ↓slp, ↓reduceIte, reduceCtorEq, jA, jB, jC, jE, jF, Yd, f4, f5, f16, f17, f18, pI, c1, b2', s1, s2, Vm.cs, hlt, b1N, exists_eq'] | apply hX; clear hX X | apply And.intro; focus ((repeat' apply And.intro) <;> first | omega | assumption)))
  generalize (oN.use m2).fresh 1 = m3 at *
  generalize m2.nt = tn at *
  obtain ⟨J, hJ⟩ : ∃ J : F → M → Prop, ∀ f m4, J f m4 = (∃ (i : Nat) (oL : Own), i ≤ g.vs.length ∧ f 4 = .bp m.nb 0 ∧ f 5 = .sl (.tok tn) ((Nj ++ [L[j].name]).map pS) ∧ f 6 = .sl oR ((List.range j).map (pRow T g.vs.length)) ∧ f 7 = pI j ∧ f 9 = .sl oL ((rowN T j i).map pN) ∧ f 16 = .gs lid g.vs.length cap ∧ f 17 = pI g.vs.length ∧ f 18 = pI j ∧ f 32 = pI g.vs.length ∧ f 33 = pI i ∧ Toks mc m4 ∧ Mine mc m4 (.tok tn) 1 ∧ Mine mc m4 oR 1 ∧ Mine mc m4 oL 1 ∧ (∀ t, oL = .tok t → oR ≠ .tok t) ∧ (∀ t, oL = .tok t → Own.tok tn ≠ .tok t)) := ⟨_, fun _ _ => rfl⟩
  refine aLoop J (fun f m => g.vs.length - numOf (f 33)) ?_ ?_
  ·rw [hJ]; exact ⟨0, .full, by omega, f4, by rw [List.map_append]; rfl, f6, rfl, rfl, f16, f17, f18, rfl, rfl, t1, n1, r1, .full, (fun t h => by cases h), (fun t h => by cases h)⟩
  clear f4 f5 f6 f16 f17 f18 b1N t1 n1 r1 htk hmN hmR hne hbx hgt b2' hfN
  intro f m4 hrel
  rw [hJ] at hrel
  obtain ⟨i, oL, hi0, f4, f5, f6, f7, f9, f16, f17, f18, f32, f33, htk, hmN, hmR, hmL, hn1, hn2⟩ := hrel
  have hbx : m4.boxes = mc.boxes := htk.boxes
  have hgt : ∀ k, m4.get k = mc.get k := fun k => by unfold M.get; rw [hbx]
  cases c2 : decide ((i : Int) < (g.vs.length : Int)) with
  | true =>
   have hlti : i < g.vs.length := by simpa using c2
   have hii : IntKind.i64.wrap ((i : Int) + 1) = ((i + 1 : Nat) : Int) := by rw [wrap64 (by omega)]; omega
   have hmei : numOf (f 33) = i := by rw [f33]; exact Int.toNat_natCast i
   have hr := reaches_S (q1.toks htk) hlen (i := j) (j := i) hlt
   (repeat (first | refine aSeq fun X hX => ?_ | refine aSkip ?_ | (first | apply aReg | apply aIf); simp -implicitDefEqProofs only [↓slp, slb, ↓reduceIte, reduceCtorEq, jA, f4, f7, f32, f33, pI, c2] | apply hX; clear hX X))
   refine callM hr ?_
   rintro v md ⟨b, rfl, hb, rfl⟩
   have hsu := rowN_succ T j i
   have hTb : T j i = b := by
    cases b with
    | true => exact (hT j i).2 (hb.1 rfl)
    | false =>
     cases hc : T j i with
     | false => rfl
     | true => exact absurd (hb.2 ((hT j i).1 hc)) (by simp)
   rw [hTb] at hsu
   have hrl := rowN_len T j i
   cases b with
   | true =>
    rw [if_pos rfl] at hsu
    have hfL := hmL.free
    have h12 := natsO (rowN T j i)
    have hmx2 : (rowN T j i).length + 1 ≤ maxLen := by unfold maxLen; omega
    generalize hRj : rowN T j i = Rj at *
    simp -implicitDefEqProofs only [slb, pB]
    (repeat (first | (first | apply aReg | apply aIf); simp -implicitDefEqProofs only [forall_eq, ↓slp, ↓reduceIte, reduceCtorEq, jA, jB, jC, jE, Yd, f9, f33, pI, hii] | apply hX; clear hX X | apply And.intro; focus ((repeat' apply And.intro) <;> first | omega | assumption)))
    rw [hJ]
    exact ⟨⟨i + 1, .tok md.nt, hlti, f4, f5, f6, f7, by rw [hsu, List.map_append]; rfl, f16, f17, f18, f32, rfl, htk.use hmL, hmN.other (fun t ht => hn2 t ht), hmR.other (fun t ht => hn1 t ht), Mine.new htk oL 1, hmR.ne_new, hmN.ne_new⟩, by omega⟩
   | false =>
    rw [if_neg (by simp), List.append_nil] at hsu
    simp -implicitDefEqProofs only [slb, pB]
    (repeat (first | refine aSkip ?_ | (first | apply aReg | apply aIf); simp -implicitDefEqProofs only [↓slp, slb, ↓reduceIte, jA, f33, pI, hii] | apply hX; clear hX X))
    rw [hJ]
    exact ⟨⟨i + 1, oL, hlti, f4, f5, f6, f7, by rw [hsu]; exact f9, f16, f17, f18, f32, rfl, htk, hmN, hmR, hmL, hn1, hn2⟩, by omega⟩
  | false =>
   obtain rfl : i = g.vs.length := by simp at c2; omega
   have hfR := hmR.free
   have h13 := rowsO T g.vs.length (List.range j)
   have hmx3 : ((List.range j).map (pRow T g.vs.length)).length + 1 ≤ maxLen := by rw [List.length_map, List.length_range]; unfold maxLen; omega
   have hml3 : ((List.range j).map (pRow T g.vs.length)).length ≤ 4000000 := by rw [List.length_map, List.length_range]; omega
   have hsr : (List.range (j + 1)).map (pRow T g.vs.length) = (List.range j).map (pRow T g.vs.length) ++ [.sl .no ((rowN T j g.vs.length).map pN)] := by rw [List.range_succ, List.map_append]; rfl
   generalize hRw : (List.range j).map (pRow T g.vs.length) = Rw at *
   (repeat (first | refine aSeq fun X hX => ?_ | refine aExit ?_; try simp only [slx, ↓reduceIte, jA, reduceCtorEq] | (first | apply aReg | apply aIf); simp -implicitDefEqProofs only [forall_eq, ↓slp, ↓reduceIte, jA, jB, jC, jE, Yd, f6, f9, f18, f32, f33, pI, c2, hi] | apply hX; clear hX X | clear hX X; apply hX; clear hX X | apply And.intro; focus ((repeat' apply And.intro) <;> first | omega | assumption)))
   rw [hI]
   exact ⟨⟨j + 1, .tok tn, .tok m4.nt, hlt, f4, by rw [hnx]; exact f5, by rw [hsr]; rfl, f16, f17, rfl, htk.use hmR, hmN.other (fun t ht q => hnr t q ht), Mine.new htk oR 1, hmN.new_ne⟩, by omega⟩
end Go.Proofs.Ytaealemhegdmpaa

/-
 The law CausesNeeds.
-/
set_option linter.unusedVariables false
set_option linter.unusedSimpArgs false
namespace Go.Proofs.Ytaealemhegdmpaa
open Nat renaming reduceEqDiff → jA, reduceAdd → jB, reduceMul → jC, reduceLT → jD, reduceLeDiff → jE, reduceBEq → jF, reduceBNe → jG
open Int renaming reduceLE → jH, reduceLT → jI, reduceToNat → jJ, reduceEq → jK
open Go
-- EXX: No.settle_pv, No.pure_pv, No.cells_pv, No.cs, No.pv.eq_1
set_option maxRecDepth 20000
-- TNAMES: int; uint8; int32; string; bool; []uint8; api.Program; error; []string; api.Expr; api.Pos; []api.Pos; api.Type; api.Var; []api.Var; []int; [][]int; api.Equation; []api.Equation; api.Block; api.Node; []api.Node; []api.Enum; [2]int; [][2]int; []bool; [][]bool; metronomeref11.Graph; *metronomeref11.Graph


set_option maxHeartbeats 1000000 in
theorem same_any (o1 o2 : Own) (l : List Str) (m : M) : ACalls Try.prog 10 [.sl o1 (l.map pS), .sl o2 (l.map pS)] m (fun v m' => v = pB true ∧ m' = m) := by
 have hnn : ((l.length : Int) != (l.length : Int)) = false := by simp
 refine ACalls.enter (mu := []) ok_mix Try.func10 rfl (by kernel_rfl) (by kernel_rfl) (by simp only [List.length_cons, List.length_nil, Try.ntmps10]; omega) ?_
 (repeat (first | refine aSeq fun X hX => ?_ | refine aBlk ?_ | refine aSkip ?_ | (first | apply aReg | apply aIf); simp -implicitDefEqProofs only [↓slp, ↓reduceIte, reduceCtorEq, jA, Yd] | apply hX; clear hX X | intro hlen; unfold maxLen at hlen))
 obtain ⟨I, hI⟩ : ∃ I : F → M → Prop, ∀ f m', I f m' = (∃ k : Nat, k ≤ l.length ∧ f 0 = .sl o1 (l.map pS) ∧ f 1 = .sl o2 (l.map pS) ∧ f 5 = pI k ∧ m = m') := ⟨_, fun _ _ => rfl⟩
 refine aLoop I (fun f m => l.length - numOf (f 5)) ?_ ?_
 ·rw [hI]; exact ⟨0, by omega, rfl, rfl, rfl, rfl⟩
 intro f m' hrel
 rw [hI] at hrel
 obtain ⟨k, hk, f0, f1, f5, rfl⟩ := hrel
 cases c1 : decide ((k : Int) < (l.length : Int)) with
 | false =>
  (repeat (first | refine aSeq fun X hX => ?_ | (first | refine aExit ?_ | refine aRet ?_); try simp only [slx, ↓reduceIte, jA, reduceCtorEq] | (first | apply aReg | apply aIf); simp -implicitDefEqProofs only [↓slp, ↓reduceIte, reduceCtorEq, jA, Yd, f0, f5, pI, c1] | apply hX; clear hX X | clear hX X; apply hX; clear hX X | intro hlen; unfold maxLen at hlen))
  simp only [aPost, Try.results10, aRes_n, aRes_t, aRes_c, pack_one, pack_two]
  exact leave_same rfl ⟨rfl, rfl⟩
 | true =>
  have hlt : k < l.length := by simpa using c1
  have g0 := getD_map pS l k hlt
  have hi : IntKind.i64.wrap ((k : Int) + 1) = ((k + 1 : Nat) : Int) := by rw [wrap64 (by omega)]; omega
  have hme : numOf (f 5) = k := by rw [f5]; exact Int.toNat_natCast k
  obtain ⟨x, hx⟩ : ∃ x, l[k] = x := ⟨_, rfl⟩
  rw [hx] at g0
  have c2 : (!(x.toList == x.toList)) = false := by simp
  (repeat (first | refine aSeq fun X hX => ?_ | refine aSkip ?_ | (first | apply aReg | apply aIf); simp -implicitDefEqProofs only [↓slp, ↓reduceIte, reduceCtorEq, jA, Yd, f0, f5, pI, c1] | apply hX; clear hX X | intro hlen; unfold maxLen at hlen))
  (repeat (first | refine aSkip ?_ | (first | apply aReg | refine aDrE ?_ | apply aIf); simp -implicitDefEqProofs only [↓slp, ↓reduceIte, reduceCtorEq, jA, jB, Yd, f0, f1, f5, pI, pS, g0, hlt, hi] | apply hX; clear hX X))
  rw [hI]
  exact ⟨⟨k + 1, hlt, f0, f1, rfl, rfl⟩, by omega⟩
theorem rofG_any (n : No) (h : CsN 3 n) (hi : n.ins.length ≤ 100) (ho : n.outs.length ≤ 100) (hpc : pcF 3 n.b.vars n.b.eqs ≤ 1000000000000) (m : M) : ACalls Try.prog 9 [n.pv] m (fun v m' => v = .bp m.nb 0 ∧ (∃ P ids T, RgN m m.nb (gOf 3 n).vs.length (gOf 3 n).vs.length (nmG (gOf 3 n)) ((gOf 3 n).vs.map fun v => (v.line, v.col)) P ids T m' ∧ ∀ a b, a < (gOf 3 n).vs.length → b < (gOf 3 n).vs.length → (T a b = true ↔ TG (gOf 3 n).E a b)) ∧ Stp m m') := by
 refine rof_gen 3 n (pcF 3 n.b.vars n.b.eqs) hi ho h.len (by omega) (fun m0 m' hg => ?_) m
 have hc := h.cnt
 have hb := h.blk
 obtain ⟨hv1, hv2, hv3⟩ := gVars_eq (n.ins ++ n.outs) ⟨[], fun _ _ => False⟩ []
 have hgo : gOf 3 n = gBk 3 (gVars (⟨[], fun _ _ => False⟩, []) (n.ins ++ n.outs)).1 (gVars (⟨[], fun _ _ => False⟩, []) (n.ins ++ n.outs)).2 n.b.vars n.b.eqs (fun _ => False) := rfl
 rw [hgo]
 generalize n.ins ++ n.outs = V at *
 generalize gVars (⟨[], fun _ _ => False⟩, []) V = p1 at *
 have hlen : p1.1.vs.length = V.length := by rw [hv1]; simp
 have hsee : p1.2 = List.range V.length := by rw [hv3]; simp
 have he : EnvG p1.1 p1.2 (V.map Va.name) := by
  refine ⟨fun i hi => ?_, ?_⟩
  ·rw [hsee, List.mem_range] at hi; omega
  ·unfold seeNm nmG
   rw [hv1, hsee]
   refine List.ext_getElem (by simp) fun j h3 h4 => ?_
   have h6 : j < V.length := by simpa using h3
   simp [h6, List.getD]
 have hbk := rblock_any 3 (V.map Va.name) n.b.vars n.b.eqs hb m0 m0.nb p1.1 p1.2 [] (fun _ => False) 0 m' hg he (by omega) (by rw [hsee, List.length_range]; omega) (fun k hk => by cases hk) (fun x => by simp) (by simp) (by omega)
 rw [Nat.zero_add] at hbk
 exact hbk.mono fun v m1 ⟨r1, r2, r3, _⟩ => ⟨r1, r2, r3⟩
theorem rowN_at {T : Nat → Nat → Bool} {a n : Nat} : ∀ {k : Nat}, k ≤ n → ∃ r, rowN T a n = rowN T a k ++ r ∧ (k < n → T a k = true → ∃ r', r = k :: r') := by
 intro k hk
 induction n with
 | zero =>
  obtain rfl : k = 0 := by omega
  exact ⟨[], by simp, fun h => by omega⟩
 | succ n ih =>
  rcases Nat.lt_or_ge n k with h | h
  ·obtain rfl : k = n + 1 := by omega
   exact ⟨[], by simp, fun h => by omega⟩
  ·obtain ⟨r, h1, h2⟩ := ih h
   refine ⟨r ++ if T a n = true then [n] else [], by rw [rowN_succ, h1, List.append_assoc], fun _ hT => ?_⟩
   rcases Nat.lt_or_ge k n with h3 | h3
   ·obtain ⟨r', h4⟩ := h2 h3 hT
    exact ⟨r' ++ if T a n = true then [n] else [], by rw [h4]; rfl⟩
   ·obtain rfl : k = n := by omega
    have h0 : r = [] := by
     have := congrArg List.length h1
     rw [List.length_append] at this
     exact List.eq_nil_of_length_eq_zero (by omega)
    exact ⟨[], by rw [h0, if_pos hT]; rfl⟩
set_option maxHeartbeats 8000000 in
theorem needsLaw_any (l : List Int) (hel : ∀ x ∈ l, 0 ≤ x ∧ x ≤ 255) :
    ACalls Try.prog 4 [.sl .no (l.map pU)] M0 (fun v m' => v = .v (.bool true)) := by
 refine ACalls.enter (mu := []) ok_mix Try.func4 rfl (by kernel_rfl) (by kernel_rfl) (by simp only [List.length_cons, List.length_nil, Try.ntmps4]; omega) ?_
 cases c1 : decide ((l.length : Int) > 300) with
 | true =>
  (repeat (first | refine aSeq fun X hX => ?_ | refine aReg ?_; simp -implicitDefEqProofs only [↓slp, slb] | apply hX; clear hX X))
  refine callE (awake_any _) ?_
  simp -implicitDefEqProofs only [↓slp, ↓reduceIte, reduceCtorEq, jA, Yd, c1]
  (repeat (apply hX; clear hX X))
  refine aIf ?_; simp -implicitDefEqProofs only [slb, ↓reduceIte, reduceCtorEq]
  (repeat (first | refine aSeq fun X hX => ?_ | refine aReg ?_; simp -implicitDefEqProofs only [↓slp, slb]))
  refine callE (awake_any _) ?_
  simp -implicitDefEqProofs only [↓slp, slb, ↓reduceIte]
  (repeat (first | refine aRet ?_; try simp only [slx, ↓reduceIte, jA, reduceCtorEq] | apply hX; clear hX X))
  simp only [aPost, Try.results4, aRes_n, aRes_t, aRes_c, pack_one, pack_two]
  exact leave_same rfl rfl
 | false =>
  (repeat (first | refine aSeq fun X hX => ?_ | refine aReg ?_; simp -implicitDefEqProofs only [↓slp, slb] | apply hX; clear hX X))
  refine callE (awake_any _) ?_
  simp -implicitDefEqProofs only [↓slp, ↓reduceIte, reduceCtorEq, jA, Yd, c1]
  (repeat (first | refine aSeq fun X hX => ?_ | refine aSkip ?_ | (first | apply aReg | apply aIf); simp -implicitDefEqProofs only [↓slp, slb, ↓reduceIte, reduceCtorEq] | apply hX; clear hX X))
  refine callM (make_any l (by simp at c1; omega) hel _) ?_
  rintro v m' ⟨ns, rfl, hnl, hns, rfl⟩
  simp -implicitDefEqProofs only [↓slp, ↓reduceIte, jB, jF, Yd]
  (repeat (first | refine aSeq fun X hX => ?_ | refine aBlk ?_ | refine aReg ?_; simp -implicitDefEqProofs only [↓slp, slb] | apply hX; clear hX X))
  have hgood := made_g hns
  obtain ⟨I, hI⟩ : ∃ I : F → M → Prop, ∀ f m', I f m' = (∃ k : Nat, k ≤ ns.length ∧ f 3 = .ep [.sl .no [.ag colC], .sl .no (ns.map No.pv)] ∧ f 4 = pI k ∧ Stp M0 m') := ⟨_, fun _ _ => rfl⟩
  refine aLoop I (fun f m => ns.length - numOf (f 4)) ?_ ?_
  ·rw [hI]; exact ⟨0, by omega, rfl, rfl, Stp.refl _⟩
  intro f mb hrel
  rw [hI] at hrel
  obtain ⟨k, hk, f3, f4, hst⟩ := hrel
  cases d1 : decide ((k : Int) < (ns.length : Int)) with
  | false =>
   (repeat (first | refine aSeq fun X hX => ?_ | (first | refine aExit ?_ | refine aRet ?_); try simp only [slx, ↓reduceIte, jA, reduceCtorEq] | (first | apply aReg | apply aIf); simp -implicitDefEqProofs only [↓slp, ↓reduceIte, reduceCtorEq, jA, jB, jE, Yd, f3, f4, pI, d1] | apply hX; clear hX X | clear hX X; apply hX; clear hX X | intro hlen; unfold maxLen at hlen))
   simp only [aPost, Try.results4, aRes_n, aRes_t, aRes_c, pack_one, pack_two]
   simp -implicitDefEqProofs only [slb, ↓reduceIte]
   exact leave_stp hst rfl rfl
  | true =>
   have hlt : k < ns.length := by simpa using d1
   have g0 := getD_map No.pv ns k hlt
   have hi : IntKind.i64.wrap ((k : Int) + 1) = ((k + 1 : Nat) : Int) := by rw [wrap64 (by omega)]; omega
   have hme : numOf (f 4) = k := by rw [f4]; exact Int.toNat_natCast k
   obtain ⟨⟨hcn, hin, hon⟩, hpc⟩ := hgood _ (List.getElem_mem hlt)
   have hnd := fun m => cneeds_any 3 ns[k] hcn m
   have hro := fun m => rofG_any ns[k] hcn hin hon hpc m
   simp only [No.pv.eq_1] at hnd hro
   have hlen := hcn.len
   have hpos := hcn.pos
   generalize gOf 3 ns[k] = g at *
   (repeat (first | refine aSeq fun X hX => ?_ | refine aSkip ?_ | (first | apply aReg | apply aIf); simp -implicitDefEqProofs only [↓slp, ↓reduceIte, reduceCtorEq, jA, jB, jE, Yd, f3, f4, pI, d1, g0] | apply hX; clear hX X | intro hlen; unfold maxLen at hlen | apply And.intro; focus omega))
   refine callM (hnd _) ?_
   rintro v mn ⟨T, hT, rfl, rfl⟩
   simp -implicitDefEqProofs only [↓slp, slb, ↓reduceIte, jA, jB]
   (repeat (first | refine aSeq fun X hX => ?_ | refine aReg ?_; simp -implicitDefEqProofs only [↓slp, ↓reduceIte, reduceCtorEq, jA, jB, jE, Yd, f3, f4, pI, g0] | apply hX; clear hX X | apply And.intro; focus omega))
   refine callM (hro _) ?_
   rintro v mc ⟨rfl, ⟨P, ids, T2, hR, hT2⟩, hst2⟩
   simp -implicitDefEqProofs only [↓slp, slb, ↓reduceIte]
   have hst3 := hst.trans hst2
   obtain ⟨o1, o2, o4, nid, cap, c, b1, b2, hat⟩ := hR.look hpos
   have hsm := same_any .no o1 (nmG g) mc
   have hnn : ((g.vs.length : Int) == (g.vs.length : Int)) = true := by simp
   have hrg : (List.range g.vs.length).length = g.vs.length := List.length_range
   have hLN : (nmG g).length = g.vs.length := List.length_map _
   have hTT : ∀ a b, a < g.vs.length → b < g.vs.length → T2 a b = T a b := fun a b ha hb => by
    have h1 := hT2 a b ha hb
    have h2 := hT a b
    cases e1 : T2 a b <;> cases e2 : T a b <;> simp_all
   (repeat (first | refine aSeq fun X hX => ?_ | refine aReg ?_; simp -implicitDefEqProofs only [↓slp, ↓reduceIte, reduceCtorEq, jA, jB, Yd, b1] | apply hX; clear hX X))
   refine callM hsm ?_
   rintro v md ⟨rfl, rfl⟩
   simp -implicitDefEqProofs only [↓slp, ↓reduceIte, jA, Yd, pB, hrg]
   (repeat (first | refine aSeq fun X hX => ?_ | refine aBlk ?_ | refine aSkip ?_ | (first | apply aReg | apply aIf); simp -implicitDefEqProofs only [↓slp, slb, ↓reduceIte] | apply hX; clear hX X))
   obtain ⟨J, hJ⟩ : ∃ J : F → M → Prop, ∀ f m', J f m' = (∃ a : Nat, a ≤ g.vs.length ∧ f 3 = .ep [.sl .no [.ag colC], .sl .no (ns.map No.pv)] ∧ f 4 = pI k ∧ f 5 = .sl .no ((nmG g).map pS) ∧ f 6 = .sl .no ((List.range g.vs.length).map (pRow T g.vs.length)) ∧ f 7 = .bp mn.nb 0 ∧ f 8 = pI a ∧ m' = md) := ⟨_, fun _ _ => rfl⟩
   refine aLoop J (fun f m => g.vs.length - numOf (f 8)) ?_ ?_
   ·rw [hJ]; exact ⟨0, by omega, f3, f4, rfl, rfl, rfl, rfl, rfl⟩
   clear f3 f4
   intro f m' hrel
   rw [hJ] at hrel
   obtain ⟨a, ha, f3, f4, f5, f6, f7, f8, rfl⟩ := hrel
   cases d2 : decide ((a : Int) < (g.vs.length : Int)) with
   | false =>
    (repeat (first | refine aSeq fun X hX => ?_ | refine aExit ?_; try simp only [slx, ↓reduceIte, jA, reduceCtorEq] | (first | apply aReg | apply aIf); simp -implicitDefEqProofs only [↓slp, ↓reduceIte, jA, Yd, f4, f5, f8, pI, d2, hi] | apply hX; clear hX X | clear hX X; apply hX; clear hX X | intro hlen; unfold maxLen at hlen))
    rw [hI]
    exact ⟨⟨k + 1, hlt, f3, rfl, hst3⟩, by omega⟩
   | true =>
    have hlta : a < g.vs.length := by simpa using d2
    have hia : IntKind.i64.wrap ((a : Int) + 1) = ((a + 1 : Nat) : Int) := by rw [wrap64 (by omega)]; omega
    have hmea : numOf (f 8) = a := by rw [f8]; exact Int.toNat_natCast a
    have grw : ((List.range g.vs.length).map (pRow T g.vs.length)).getD a .junk = .sl .no ((rowN T a g.vs.length).map pN) := by
     have := getD_map (pRow T g.vs.length) (List.range g.vs.length) a (by rw [List.length_range]; exact hlta)
     rw [this, List.getElem_range]; rfl
    have grl : a < (List.range g.vs.length).length := by rw [List.length_range]; exact hlta
    obtain ⟨ca, cla⟩ := hat a hlta
    have ra := (hR.rows a hlta).2.2
    have rla := rowT_len g.vs.length T2 a
    (repeat (first | refine aSeq fun X hX => ?_ | refine aBlk ?_ | refine aSkip ?_ | (first | apply aReg | apply aIf); simp -implicitDefEqProofs only [↓slp, ↓reduceIte, reduceCtorEq, jA, Yd, f5, f8, pI, d2] | apply hX; clear hX X | intro hlen; unfold maxLen at hlen))
    obtain ⟨L, hL⟩ : ∃ L : F → M → Prop, ∀ f m2, L f m2 = (∃ b : Nat, b ≤ g.vs.length ∧ f 3 = .ep [.sl .no [.ag colC], .sl .no (ns.map No.pv)] ∧ f 4 = pI k ∧ f 5 = .sl .no ((nmG g).map pS) ∧ f 6 = .sl .no ((List.range g.vs.length).map (pRow T g.vs.length)) ∧ f 7 = .bp mn.nb 0 ∧ f 8 = pI a ∧ f 9 = pI (rowN T a b).length ∧ f 10 = pI b ∧ m2 = m') := ⟨_, fun _ _ => rfl⟩
    refine aLoop L (fun f m => g.vs.length - numOf (f 10)) ?_ ?_
    ·rw [hL]; exact ⟨0, by omega, f3, f4, f5, f6, f7, f8, rfl, rfl, rfl⟩
    clear f3 f4 f5 f6 f7 f8
    intro f m2 hrel
    rw [hL] at hrel
    obtain ⟨b, hb0, f3, f4, f5, f6, f7, f8, f9, f10, rfl⟩ := hrel
    obtain ⟨r, hr1, hr2⟩ := rowN_at (T := T) (a := a) hb0
    have hbl := rowN_len T a b
    cases d3 : decide ((b : Int) < (g.vs.length : Int)) with
    | true =>
     have hltb : b < g.vs.length := by simpa using d3
     have hib : IntKind.i64.wrap ((b : Int) + 1) = ((b + 1 : Nat) : Int) := by rw [wrap64 (by omega)]; omega
     have hmeb : numOf (f 10) = b := by rw [f10]; exact Int.toNat_natCast b
     have rta := rowT_at T2 a hltb
     rw [hTT a b hlta hltb] at rta
     have hsu := rowN_succ T a b
     cases e1 : T a b with
     | true =>
      obtain ⟨r', rfl⟩ := hr2 hltb e1
      rw [e1] at rta
      rw [e1, if_pos rfl] at hsu
      have hat2 : IntKind.i64.wrap (((rowN T a b).length : Int) + 1) = ((rowN T a (b + 1)).length : Int) := by rw [hsu, List.length_append, List.length_singleton, wrap64 (by omega)]; omega
      have d5 : decide (((rowN T a b).length : Int) ≥ ((rowN T a g.vs.length).length : Int)) = false := by rw [hr1, List.length_append, List.length_cons]; simp; omega
      have hlr : (rowN T a b).length < (rowN T a g.vs.length).length := by rw [hr1, List.length_append, List.length_cons]; omega
      have gx : ((rowN T a g.vs.length).map pN).getD (rowN T a b).length .junk = pN b := by
       rw [hr1, List.map_append, List.getD, List.getElem?_append_right (by simp)]; simp
      have hbb : ((b : Int) == (b : Int)) = true := by simp
      (repeat (first | refine aSeq fun X hX => ?_ | refine aSkip ?_ | (first | apply aReg | apply aIf); simp -implicitDefEqProofs only [↓slp, ↓reduceIte, reduceCtorEq, jA, jB, jD, Yd, f5, f6, f7, f8, f9, f10, pI, pN, pB, d3, b1, b2, ca, cla, ra, rla, rta, hlta, hltb, grw, grl, d5, hlr, gx, hat2, hib, Nat.mul_one, Nat.zero_add] | apply hX; clear hX X | intro hlen; unfold maxLen at hlen))
      rw [hL]
      exact ⟨⟨b + 1, hltb, f3, f4, f5, f6, f7, f8, rfl, rfl, rfl⟩, by omega⟩
     | false =>
      rw [e1] at rta
      rw [e1, if_neg (by simp), List.append_nil] at hsu
      (repeat (first | refine aSeq fun X hX => ?_ | refine aSkip ?_ | (first | apply aReg | apply aIf); simp -implicitDefEqProofs only [↓slp, ↓reduceIte, reduceCtorEq, jA, jB, jD, Yd, f5, f7, f8, f10, pI, pB, d3, b1, b2, ca, cla, ra, rla, rta, hlta, hltb, hib, Nat.mul_one, Nat.zero_add] | apply hX; clear hX X | intro hlen; unfold maxLen at hlen))
      rw [hL]
      exact ⟨⟨b + 1, hltb, f3, f4, f5, f6, f7, f8, by rw [hsu]; exact f9, rfl, rfl⟩, by omega⟩
    | false =>
     obtain rfl : b = g.vs.length := by simp at d3; omega
     have hbb : (((rowN T a g.vs.length).length : Int) == ((rowN T a g.vs.length).length : Int)) = true := by simp
     (repeat (first | refine aSeq fun X hX => ?_ | refine aSkip ?_ | refine aExit ?_; try simp only [slx, ↓reduceIte, jA, reduceCtorEq] | (first | apply aReg | apply aIf); simp -implicitDefEqProofs only [↓slp, ↓reduceIte, jA, jB, Yd, f5, f6, f8, f9, f10, pI, d3, grw, grl, hia] | apply hX; clear hX X | clear hX X; apply hX; clear hX X | intro hlen; unfold maxLen at hlen))
     rw [hJ]
     exact ⟨⟨a + 1, hlta, f3, f4, f5, f6, f7, rfl, rfl⟩, by omega⟩
end Go.Proofs.Ytaealemhegdmpaa
