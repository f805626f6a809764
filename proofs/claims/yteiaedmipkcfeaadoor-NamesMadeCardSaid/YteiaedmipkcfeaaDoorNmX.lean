/-
 Texts that belong together: NmF, NmO, NmE.
-/
-- halved
import Derived.Test.YteiaedmipkcfeaaDoorNmY
import Derived.Test.YteiaedmipkcfeaaDoorExA
import Derived.Test.YteiaedmipkcfeaaDoorAbKit
import Derived.Test.YteiaedmipkcfeaaDoorNvA
/-
 names: arms.
-/
set_option linter.unusedVariables false
set_option linter.unusedSimpArgs false
namespace Go.Proofs.YteiaedmipkcfeaaDoor
open Nat renaming reduceEqDiff → jA, reduceAdd → jB, reduceMul → jC, reduceLT → jD, reduceLeDiff → jE, reduceBEq → jF, reduceBNe → jG
open Int renaming reduceLE → jH, reduceLT → jI, reduceToNat → jJ, reduceEq → jK
open Go
set_option maxRecDepth 20000


/-- What looks behind a block's equations: nothing, or ways out of a state. -/
def MoreN (ns : List No) (E : List Va) (x : PV) : Prop := x = .v .nilFunc ∨ ∃ (q : Qu) (a : Am), NmW E (q.arms.map Am.name) a.til ∧ x = .fn (.func 103) [] [.ep [lkP ns], .ep q.cs, .ep a.cs]
abbrev defs (D : List Str) (m : M) : PV → M → Prop := fun v m' => ∃ r : List Str, v = .sl .no (r.map pS) ∧ r.Perm D ∧ m' = m
def BlkN (ns : List No) (E : List Va) (D : List Str) (V : List Va) (Q : List Qu) : Prop := ∀ (O : List Str) (m : M) (x : PV), (∀ z ∈ D, z ∈ O) → O.length ≤ E.length → MoreN ns (E ++ V) x →
 ACalls Tryd.prog 47 [lkP ns, scN E O, .ag [.sl .no (V.map Va.pv), .sl .no (Q.map Qu.pv)], x] m (defs D m)
set_option maxHeartbeats 1000000 in
theorem cloN_any (ns : List No) (E : List Va) (O : List Str) (q : Qu) (a : Am) (ha : NmW E (q.arms.map Am.name) a.til) (m : M) : ACalls Tryd.prog 103 [scN E O, .ep [lkP ns], .ep q.cs, .ep a.cs] m (unit m) := by
 have hw := waysN_any ns O q a.til ha
 rw [Qu.pv_eq] at hw
 simp only [Qu.cs] at hw
 unfold lkP scN colC at *
 refine ACalls.enter (mu := []) ok_mix Tryd.func103 rfl (by kernel_rfl) (by kernel_rfl) (by simp only [List.length_cons, List.length_nil, Tryd.ntmps103]; omega) ?_
 (repeat (first | refine aSeq fun X hX => ?_ | apply aBlk | refine aSkip ?_ | (first | refine aExit ?_ | refine aRet ?_); try simp only [slx, ↓reduceIte, jA, reduceCtorEq] | (first | apply aReg | apply aIf); simp -implicitDefEqProofs only [↓slp, ↓reduceIte, reduceCtorEq, jA, jF, jH, Ya] | apply hX; clear hX X | clear hX X; apply hX; clear hX X | intro hlen; unfold maxLen at hlen | apply And.intro; · first | assumption | and_intros <;> first | omega | assumption))
 refine callE (hw _) ?_
 simp -implicitDefEqProofs only [↓slp, ↓reduceIte, reduceCtorEq, jA, jF, jH, Ya]
 (repeat (first | refine aSeq fun X hX => ?_ | apply aBlk | refine aSkip ?_ | (first | refine aExit ?_ | refine aRet ?_); try simp only [slx, ↓reduceIte, jA, reduceCtorEq] | (first | apply aReg | apply aIf); simp -implicitDefEqProofs only [↓slp, ↓reduceIte, reduceCtorEq, jA, jF, jH, Ya] | apply hX; clear hX X | clear hX X; apply hX; clear hX X | intro hlen; unfold maxLen at hlen | apply And.intro; · first | assumption | and_intros <;> first | omega | assumption))
 simp only [aPost, Tryd.results103, aRes_n, aRes_t, aRes_c, pack_one, pack_two]
 exact leave_same rfl ⟨rfl, rfl⟩
def pLS (l : List Str) : PV := .sl .no (l.map pS)
theorem pLS_len (l : List (List Str)) : ∀ x ∈ l.map pLS, x.cells.length = 1 := fun x hx => by
 obtain ⟨s, _, rfl⟩ := List.mem_map.1 hx; rfl
theorem strN_one (l : List Str) : ∀ x ∈ l.map pS, x.cells.length = 1 := fun x hx => by
 obtain ⟨s, _, rfl⟩ := List.mem_map.1 hx; rfl
theorem hasS_no {l : List Str} {s : Str} (h : s ∉ l) : hasS l s = false := by
 cases c : hasS l s with
 | false => rfl
 | true => exact absurd ((hasS_iff s l).1 c) h
set_option maxHeartbeats 8000000 in
theorem armsN_any (ns : List No) {PB : List Va → List Str → List Va → List Qu → Prop} (hPB : ∀ E D V Q, PB E D V Q → BlkN ns E D V Q) {E : List Va} {O D : List Str} {q : Qu}
    (hk : q.kind = 3 ∨ (q.kind = 4 ∧ ∀ i j (hi : i < q.arms.length) (hj : j < q.arms.length), i < j → q.arms[i].name ≠ q.arms[j].name)) (hA : NmA PB E D q.arms) (hO : ∀ z ∈ D, z ∈ O) (hOE : O.length ≤ E.length) (hD : D.length ≤ 100) (hDn : D.Nodup) (m : M) :
    ACalls Tryd.prog 92 [lkP ns, scN E O, q.pv] m (defs D m) := by
 obtain ⟨h3, Dr, hDl, hDs⟩ := hA
 have hW := fun (k : Nat) (h1 : k < (D :: Dr).length) (h2 : k < q.arms.length) => waysN_any ns O q q.arms[k].unl (hDs k h1 h2).2.2.2.1
 have hB := fun (k : Nat) (h1 : k < (D :: Dr).length) (h2 : k < q.arms.length) (m : M) => hPB _ _ _ _ (hDs k h1 h2).1 O m (.fn (.func 103) [] [.ep [lkP ns], .ep q.cs, .ep q.arms[k].cs]) (fun z hz => hO z ((hDs k h1 h2).2.1 z hz)) hOE (.inr ⟨q, q.arms[k], (hDs k h1 h2).2.2.2.2, rfl⟩)
 have hCn := fun (k : Nat) (h : k < q.arms.length) (hk4 : q.kind = 4) (o : Own) (m : M) => (show ACalls Tryd.prog 100 [.sl o ((q.arms.take k).map Am.pv), .fn (.func 101) [] [.ep q.arms[k].cs]] m (fun v m' => v = pB false ∧ m' = m) by
  have := conAm_any o (q.arms.take k) (fun b => eqS b.name q.arms[k].name) 101 (.ep q.arms[k].cs) m (fun j hj m => armC (q.arms.take k)[j] q.arms[k] m)
  rwa [idxF_no] at this
  intro x hx
  obtain ⟨j, hj, rfl⟩ := List.getElem_of_mem hx
  have hj' : j < k := by rw [List.length_take] at hj; omega
  rw [List.getElem_take]
  rcases hk with hk | ⟨_, hk⟩
  ·omega
  ·cases c : eqS q.arms[j].name q.arms[k].name with
   | false => rfl
   | true => exact absurd (eqS_iff.1 c) (hk j k (by omega) h hj'))
 have hct := fun (o : Own) (l : List Str) (s : Str) (m : M) => contains_any o l s m
 have hfv := fun (s : Str) (m : M) => findVar_any .no E s m
 rw [Qu.pv_eq] at hW
 simp only [Qu.cs, Am.cs] at hW hB hCn
 unfold lkP scN colC at *
 refine ACalls.enter (mu := []) ok_mix Tryd.func92 rfl (by kernel_rfl) (by kernel_rfl) (by simp only [List.length_cons, List.length_nil, Tryd.ntmps92]; omega) ?_
 (repeat (first | refine aSeq fun X hX => ?_ | apply aBlk | refine aSkip ?_ | (first | refine aExit ?_ | refine aRet ?_); try simp only [slx, ↓reduceIte, jA, reduceCtorEq] | (first | apply aReg | apply aIf); simp -implicitDefEqProofs only [↓slp, ↓reduceIte, reduceCtorEq, jA, jF, jH, Ya] | apply hX; clear hX X | clear hX X; apply hX; clear hX X | intro hlen; unfold maxLen at hlen | apply And.intro; · first | assumption | and_intros <;> first | omega | assumption))
 obtain ⟨I, hI⟩ : ∃ I : F → M → Prop, ∀ f m', I f m' = (∃ (k : Nat) (al : List Str) (Ls : List (List Str)) (o7 o8 : Own) (mm : M), k ≤ q.arms.length ∧ f 3 = .ep [.ep [.sl .no [.ag [.v (.string sCol), .sl .no [pS sRed, pS sGreen, pS sBlue], .v (.int .i64 0), .v (.int .i64 0)]], .sl .no (ns.map No.pv)]] ∧ f 4 = .ep [.sl .no (E.map Va.pv), .sl .no (O.map pS)] ∧ f 5 = .ep q.cs ∧ f 7 = .sl o7 (al.map pS) ∧ f 8 = .sl o8 (Ls.map pLS) ∧ f 20 = .sl .no (q.arms.map Am.pv) ∧ f 21 = pI q.arms.length ∧ f 22 = pI k ∧ Ls.length = k ∧ (k = 0 → al = []) ∧ (0 < k → al.Perm D) ∧ (∀ i (h : i < Ls.length) (h' : i < (D :: Dr).length), Ls[i].Perm (D :: Dr)[i]) ∧ Toks m mm ∧ Mine m mm o7 1 ∧ Mine m mm o8 1 ∧ (∀ t, o7 = .tok t → o8 ≠ .tok t) ∧ mm = m') := ⟨_, fun _ _ => rfl⟩
 refine aLoop I (fun f m => q.arms.length - numOf (f 22)) ?_ ?_
 ·rw [hI]; exact ⟨0, [], [], .full, .full, m, by omega, rfl, rfl, rfl, rfl, rfl, rfl, rfl, rfl, rfl, fun _ => rfl, fun h => absurd h (Nat.lt_irrefl _), (fun i h => by simp at h), .refl _, .full, .full, (fun t h => by cases h), rfl⟩
 intro f m' hrel
 rw [hI] at hrel
 obtain ⟨k, al, Ls, o7, o8, mm, hkl, f3, f4, f5, f7, f8, f20, f21, f22, hLl, hal0, hal1, hLp, htk, hm7, hm8, hne, rfl⟩ := hrel
 cases c1 : decide ((k : Int) < (q.arms.length : Int)) with
 | true =>
  have hlt : k < q.arms.length := by simpa using c1
  have hlt' : k < (D :: Dr).length := by omega
  have g0 := getD_map Am.pv q.arms k hlt
  have hi : IntKind.i64.wrap ((k : Int) + 1) = ((k + 1 : Nat) : Int) := by rw [wrap64 (by omega)]; omega
  have hme : numOf (f 22) = k := by rw [f22]; exact Int.toNat_natCast k
  have hmt : (q.arms.map Am.pv).take k = (q.arms.take k).map Am.pv := by rw [List.map_take]
  rcases hk with hk | ⟨hk, hnd⟩
  ·have c4 : (q.kind == 4) = false := by simp [hk]
   (repeat (first | refine aSeq fun X hX => ?_ | apply aBlk | refine aSkip ?_ | (first | refine aExit ?_ | refine aRet ?_); try simp only [slx, ↓reduceIte, jA, reduceCtorEq] | (first | apply aReg | apply aIf); simp -implicitDefEqProofs only [↓slp, ↓reduceIte, reduceCtorEq, jA, jF, jH, Ya, f3, f4, f5, f7, f8, f20, f21, f22, pI, c4, c1, g0] | apply hX; clear hX X | clear hX X; apply hX; clear hX X | intro hlen; unfold maxLen at hlen | apply And.intro; · first | assumption | and_intros <;> first | omega | assumption))
   (repeat (first | refine aSeq fun X hX => ?_ | apply aBlk | refine aSkip ?_ | (first | refine aExit ?_ | refine aRet ?_); try simp only [slx, ↓reduceIte, jA, reduceCtorEq] | (first | apply aReg | apply aIf); simp -implicitDefEqProofs only [↓slp, ↓reduceIte, reduceCtorEq, jA, jF, jH, Ya, f3, f4, f5, f7, f8, f20, f21, f22, pI, c4] | apply hX; clear hX X | clear hX X; apply hX; clear hX X | intro hlen; unfold maxLen at hlen | apply And.intro; · first | assumption | and_intros <;> first | omega | assumption))
   refine callE (hW k hlt' hlt _) ?_
   simp -implicitDefEqProofs only [↓slp, ↓reduceIte, reduceCtorEq, jA, jF, jH, Ya, f3, f4, f5]
   (repeat (first | refine aSeq fun X hX => ?_ | apply aBlk | refine aSkip ?_ | (first | refine aExit ?_ | refine aRet ?_); try simp only [slx, ↓reduceIte, jA, reduceCtorEq] | (first | apply aReg | apply aIf); simp -implicitDefEqProofs only [↓slp, ↓reduceIte, reduceCtorEq, jA, jF, jH, Ya, f3, f4, f5, f7, f8] | apply hX; clear hX X | clear hX X; apply hX; clear hX X | intro hlen; unfold maxLen at hlen | apply And.intro; · first | assumption | and_intros <;> first | omega | assumption))
   refine callM (hB k hlt' hlt _) ?_
   rintro v mc ⟨out, rfl, hpo, hmc⟩
   have hmc' := hmc.symm
   clear hmc
   subst hmc'
   simp -implicitDefEqProofs only [↓slp, ↓reduceIte, reduceCtorEq, jA, jF, jH, Ya, f3, f4, f5, f7, f8]
   have hfr8 := hm8.free
   have hLm := pLS_len Ls
   have hmx : Ls.length + 1 ≤ maxLen := by unfold maxLen; omega
   have t1 := htk.use (s := 1) hm8
   have g8 := Mine.new htk o8 1
   have hne' : ∀ t, o8 = .tok t → o7 ≠ .tok t := fun t h1 h2 => hne t h2 h1
   have g7 := Mine.other (s := 1) hm7 hne'
   have gn := Mine.new_ne hm7
   have hpos : 0 < k ∨ k = 0 := by omega
   have hal00 : k = 0 → al = out.take 0 := fun h => hal0 h
   (repeat (first | refine aSeq fun X hX => ?_ | apply aBlk | refine aSkip ?_ | (first | refine aExit ?_ | refine aRet ?_); try simp only [slx, ↓reduceIte, jA, reduceCtorEq] | (first | apply aReg | apply aIf); simp -implicitDefEqProofs only [↓slp, ↓reduceIte, reduceCtorEq, jA, jF, jH, Ya, f3, f4, f5, f7, f8, f20, f21, f22, pI] | apply hX; clear hX X | clear hX X; apply hX; clear hX X | intro hlen; unfold maxLen at hlen | apply And.intro; · first | assumption | and_intros <;> first | omega | assumption))
   obtain ⟨J, hJ⟩ : ∃ J : F → M → Prop, ∀ f m', J f m' = (∃ (j : Nat) (a2 : List Str) (o : Own) (m2 : M), j ≤ out.length ∧ f 3 = .ep [.ep [.sl .no [.ag [.v (.string sCol), .sl .no [pS sRed, pS sGreen, pS sBlue], .v (.int .i64 0), .v (.int .i64 0)]], .sl .no (ns.map No.pv)]] ∧ f 4 = .ep [.sl .no (E.map Va.pv), .sl .no (O.map pS)] ∧ f 5 = .ep q.cs ∧ f 7 = .sl o (a2.map pS) ∧ f 8 = .sl (.tok mm.nt) ((Ls ++ [out]).map pLS) ∧ f 20 = .sl .no (q.arms.map Am.pv) ∧ f 21 = pI q.arms.length ∧ f 22 = pI k ∧ f 57 = .sl .no (out.map pS) ∧ f 58 = pI out.length ∧ f 59 = pI j ∧ ((k = 0 ∧ a2 = out.take j) ∨ (0 < k ∧ a2 = al)) ∧ Toks m m2 ∧ Mine m m2 o 1 ∧ Mine m m2 (.tok mm.nt) 1 ∧ (∀ t, o = .tok t → Own.tok mm.nt ≠ .tok t) ∧ m2 = m') := ⟨_, fun _ _ => rfl⟩
   refine aLoop J (fun f m => out.length - numOf (f 59)) ?_ ?_
   ·rw [hJ]
    refine ⟨0, al, o7, (o8.use mm).fresh 1, by omega, f3, f4, f5, f7, by rw [List.map_append]; rfl, f20, f21, f22, rfl, rfl, rfl, ?_, t1, g7, g8, gn, rfl⟩
    rcases hpos with h | h
    ·exact .inr ⟨h, rfl⟩
    ·exact .inl ⟨h, hal00 h⟩
   clear f3 f4 f5 f7 f8 f20 f21 f22
   intro f m' hrel
   rw [hJ] at hrel
   obtain ⟨j, a2, o, m2, hj, f3, f4, f5, f7, f8, f20, f21, f22, f57, f58, f59, ha2, htk2, hmo, hm8', hne2, rfl⟩ := hrel
   cases d1 : decide ((j : Int) < (out.length : Int)) with
   | true =>
    have hltj : j < out.length := by simpa using d1
    have gj := getD_map pS out j hltj
    have hij : IntKind.i64.wrap ((j : Int) + 1) = ((j + 1 : Nat) : Int) := by rw [wrap64 (by omega)]; omega
    have hmej : numOf (f 59) = j := by rw [f59]; exact Int.toNat_natCast j
    rcases ha2 with ⟨hk0, ha2⟩ | ⟨hk0, ha2⟩
    ·have hnin : hasS a2 out[j] = false := by
       apply hasS_no
       rw [ha2]
       have hnd : out.Nodup := by
        subst hk0
        exact hpo.nodup_iff.2 hDn
       intro hm
       obtain ⟨i, hi2, he⟩ := List.getElem_of_mem hm
       rw [List.getElem_take] at he
       have hij2 : i < j := by rw [List.length_take] at hi2; omega
       exact (List.pairwise_iff_getElem.1 hnd i j (by omega) hltj hij2) he
     have hcc := hct o a2 out[j]
     rw [hnin] at hcc
     have hfro := hmo.free
     have hLa := strN_one a2
     have h1 : ∀ x ∈ [pS out[j]], x.cells.length = 1 := strN_one [out[j]]
     have hlo : out.length ≤ 100 := by subst hk0; rw [hpo.length_eq]; exact hD
     have hla : a2.length ≤ 100 := by rw [ha2, List.length_take]; omega
     have hmx2 : a2.length + 1 ≤ maxLen := by unfold maxLen; omega
     (repeat (first | refine aSeq fun X hX => ?_ | apply aBlk | refine aSkip ?_ | (first | refine aExit ?_ | refine aRet ?_); try simp only [slx, ↓reduceIte, jA, reduceCtorEq] | (first | apply aReg | apply aIf); simp -implicitDefEqProofs only [↓slp, ↓reduceIte, reduceCtorEq, jA, jF, jH, Ya, f3, f4, f5, f7, f8, f57, f58, f59, pI, d1, gj] | apply hX; clear hX X | clear hX X; apply hX; clear hX X | intro hlen; unfold maxLen at hlen | apply And.intro; · first | assumption | and_intros <;> first | omega | assumption))
     refine callE (hcc _) ?_
     simp -implicitDefEqProofs only [↓slp, ↓reduceIte, reduceCtorEq, jA, jF, jH, Ya, pB, f7]
     (repeat (first | refine aSeq fun X hX => ?_ | apply aBlk | refine aSkip ?_ | (first | refine aExit ?_ | refine aRet ?_); try simp only [slx, ↓reduceIte, jA, reduceCtorEq] | (first | apply aReg | apply aIf); simp -implicitDefEqProofs only [↓slp, ↓reduceIte, reduceCtorEq, jA, jF, jH, Ya, f7, f59, pI, hij, pS] | apply hX; clear hX X | clear hX X; apply hX; clear hX X | intro hlen; unfold maxLen at hlen | apply And.intro; · first | assumption | and_intros <;> first | omega | assumption))
     rw [hJ]
     refine ⟨⟨j + 1, a2 ++ [out[j]], .tok m2.nt, (o.use m2).fresh 1, hltj, f3, f4, f5, by rw [List.map_append]; rfl, f8, f20, f21, f22, f57, f58, rfl, .inl ⟨hk0, by rw [ha2, List.take_succ_eq_append_getElem hltj]⟩, htk2.use hmo, Mine.new htk2 o 1, Mine.other (s := 1) hm8' hne2, Mine.ne_new hm8', rfl⟩, by omega⟩
    ·have hin : hasS a2 out[j] = true := by
       rw [hasS_iff, ha2]
       exact (hal1 hk0).mem_iff.2 ((hDs k hlt' hlt).2.1 _ (hpo.mem_iff.1 (List.getElem_mem hltj)))
     have hcc := hct o a2 out[j]
     rw [hin] at hcc
     (repeat (first | refine aSeq fun X hX => ?_ | apply aBlk | refine aSkip ?_ | (first | refine aExit ?_ | refine aRet ?_); try simp only [slx, ↓reduceIte, jA, reduceCtorEq] | (first | apply aReg | apply aIf); simp -implicitDefEqProofs only [↓slp, ↓reduceIte, reduceCtorEq, jA, jF, jH, Ya, f3, f4, f5, f7, f8, f57, f58, f59, pI, d1, gj] | apply hX; clear hX X | clear hX X; apply hX; clear hX X | intro hlen; unfold maxLen at hlen | apply And.intro; · first | assumption | and_intros <;> first | omega | assumption))
     refine callE (hcc _) ?_
     simp -implicitDefEqProofs only [↓slp, ↓reduceIte, reduceCtorEq, jA, jF, jH, Ya, pB, f7]
     (repeat (first | refine aSeq fun X hX => ?_ | apply aBlk | refine aSkip ?_ | (first | refine aExit ?_ | refine aRet ?_); try simp only [slx, ↓reduceIte, jA, reduceCtorEq] | (first | apply aReg | apply aIf); simp -implicitDefEqProofs only [↓slp, ↓reduceIte, reduceCtorEq, jA, jF, jH, Ya, f7, f59, pI, hij, pS] | apply hX; clear hX X | clear hX X; apply hX; clear hX X | intro hlen; unfold maxLen at hlen | apply And.intro; · first | assumption | and_intros <;> first | omega | assumption))
     rw [hJ]
     exact ⟨⟨j + 1, a2, o, m2, hltj, f3, f4, f5, f7, f8, f20, f21, f22, f57, f58, rfl, .inr ⟨hk0, ha2⟩, htk2, hmo, hm8', hne2, rfl⟩, by omega⟩
   | false =>
    have hj' : j = out.length := by simp at d1; omega
    subst hj'
    (repeat (first | refine aSeq fun X hX => ?_ | apply aBlk | refine aSkip ?_ | (first | refine aExit ?_ | refine aRet ?_); try simp only [slx, ↓reduceIte, jA, reduceCtorEq] | (first | apply aReg | apply aIf); simp -implicitDefEqProofs only [↓slp, ↓reduceIte, reduceCtorEq, jA, jF, jH, Ya, f3, f4, f5, f7, f8, f20, f21, f22, f57, f58, f59, pI, d1, hi] | apply hX; clear hX X | clear hX X; apply hX; clear hX X | intro hlen; unfold maxLen at hlen | apply And.intro; · first | assumption | and_intros <;> first | omega | assumption))
    rw [hI]
    refine ⟨⟨k + 1, a2, Ls ++ [out], o, .tok mm.nt, m2, hlt, f3, f4, f5, f7, f8, f20, f21, rfl, by simp [hLl], (fun h => absurd h (by omega)), fun _ => ?_, fun i h h' => ?_, htk2, hmo, hm8', hne2, rfl⟩, by omega⟩
    ·rcases ha2 with ⟨hk0, ha2⟩ | ⟨hk0, ha2⟩
     ·rw [ha2, List.take_length]
      subst hk0
      exact hpo
     ·rw [ha2]; exact hal1 hk0
    ·rw [List.getElem_append]
     split
     ·rename_i h9
      exact hLp i h9 h'
     ·rename_i h9
      have : i = k := by rw [List.length_append] at h; simp at h; omega
      subst this
      simp
      exact hpo
  ·have c4 : (q.kind == 4) = true := by simp [hk]
   (repeat (first | refine aSeq fun X hX => ?_ | apply aBlk | refine aSkip ?_ | (first | refine aExit ?_ | refine aRet ?_); try simp only [slx, ↓reduceIte, jA, reduceCtorEq] | (first | apply aReg | apply aIf); simp -implicitDefEqProofs only [↓slp, ↓reduceIte, reduceCtorEq, jA, jF, jH, Ya, f3, f4, f5, f7, f8, f20, f21, f22, pI, c4, c1, g0, hmt] | apply hX; clear hX X | clear hX X; apply hX; clear hX X | intro hlen; unfold maxLen at hlen | apply And.intro; · first | assumption | and_intros <;> first | omega | assumption))
   refine ⟨⟨by omega, _, rfl, am_len _⟩, callE (hCn k hlt hk _ _) ?_⟩
   simp -implicitDefEqProofs only [↓slp, ↓reduceIte, reduceCtorEq, jA, jF, jH, Ya, pB, f3, f4, f5, f7, f8, f20, f21, f22, pI]
   (repeat (first | refine aSeq fun X hX => ?_ | apply aBlk | refine aSkip ?_ | (first | refine aExit ?_ | refine aRet ?_); try simp only [slx, ↓reduceIte, jA, reduceCtorEq] | (first | apply aReg | apply aIf); simp -implicitDefEqProofs only [↓slp, ↓reduceIte, reduceCtorEq, jA, jF, jH, Ya, f3, f4, f5, f7, f8, f20, f21, f22, pI, c4] | apply hX; clear hX X | clear hX X; apply hX; clear hX X | intro hlen; unfold maxLen at hlen | apply And.intro; · first | assumption | and_intros <;> first | omega | assumption))
   refine callE (hW k hlt' hlt _) ?_
   simp -implicitDefEqProofs only [↓slp, ↓reduceIte, reduceCtorEq, jA, jF, jH, Ya, f3, f4, f5]
   (repeat (first | refine aSeq fun X hX => ?_ | apply aBlk | refine aSkip ?_ | (first | refine aExit ?_ | refine aRet ?_); try simp only [slx, ↓reduceIte, jA, reduceCtorEq] | (first | apply aReg | apply aIf); simp -implicitDefEqProofs only [↓slp, ↓reduceIte, reduceCtorEq, jA, jF, jH, Ya, f3, f4, f5, f7, f8] | apply hX; clear hX X | clear hX X; apply hX; clear hX X | intro hlen; unfold maxLen at hlen | apply And.intro; · first | assumption | and_intros <;> first | omega | assumption))
   refine callM (hB k hlt' hlt _) ?_
   rintro v mc ⟨out, rfl, hpo, hmc⟩
   have hmc' := hmc.symm
   clear hmc
   subst hmc'
   simp -implicitDefEqProofs only [↓slp, ↓reduceIte, reduceCtorEq, jA, jF, jH, Ya, f3, f4, f5, f7, f8]
   have hfr8 := hm8.free
   have hLm := pLS_len Ls
   have hmx : Ls.length + 1 ≤ maxLen := by unfold maxLen; omega
   have t1 := htk.use (s := 1) hm8
   have g8 := Mine.new htk o8 1
   have hne' : ∀ t, o8 = .tok t → o7 ≠ .tok t := fun t h1 h2 => hne t h2 h1
   have g7 := Mine.other (s := 1) hm7 hne'
   have gn := Mine.new_ne hm7
   have hpos : 0 < k ∨ k = 0 := by omega
   have hal00 : k = 0 → al = out.take 0 := fun h => hal0 h
   (repeat (first | refine aSeq fun X hX => ?_ | apply aBlk | refine aSkip ?_ | (first | refine aExit ?_ | refine aRet ?_); try simp only [slx, ↓reduceIte, jA, reduceCtorEq] | (first | apply aReg | apply aIf); simp -implicitDefEqProofs only [↓slp, ↓reduceIte, reduceCtorEq, jA, jF, jH, Ya, f3, f4, f5, f7, f8, f20, f21, f22, pI] | apply hX; clear hX X | clear hX X; apply hX; clear hX X | intro hlen; unfold maxLen at hlen | apply And.intro; · first | assumption | and_intros <;> first | omega | assumption))
   obtain ⟨J, hJ⟩ : ∃ J : F → M → Prop, ∀ f m', J f m' = (∃ (j : Nat) (a2 : List Str) (o : Own) (m2 : M), j ≤ out.length ∧ f 3 = .ep [.ep [.sl .no [.ag [.v (.string sCol), .sl .no [pS sRed, pS sGreen, pS sBlue], .v (.int .i64 0), .v (.int .i64 0)]], .sl .no (ns.map No.pv)]] ∧ f 4 = .ep [.sl .no (E.map Va.pv), .sl .no (O.map pS)] ∧ f 5 = .ep q.cs ∧ f 7 = .sl o (a2.map pS) ∧ f 8 = .sl (.tok mm.nt) ((Ls ++ [out]).map pLS) ∧ f 20 = .sl .no (q.arms.map Am.pv) ∧ f 21 = pI q.arms.length ∧ f 22 = pI k ∧ f 57 = .sl .no (out.map pS) ∧ f 58 = pI out.length ∧ f 59 = pI j ∧ ((k = 0 ∧ a2 = out.take j) ∨ (0 < k ∧ a2 = al)) ∧ Toks m m2 ∧ Mine m m2 o 1 ∧ Mine m m2 (.tok mm.nt) 1 ∧ (∀ t, o = .tok t → Own.tok mm.nt ≠ .tok t) ∧ m2 = m') := ⟨_, fun _ _ => rfl⟩
   refine aLoop J (fun f m => out.length - numOf (f 59)) ?_ ?_
   ·rw [hJ]
    refine ⟨0, al, o7, (o8.use mm).fresh 1, by omega, f3, f4, f5, f7, by rw [List.map_append]; rfl, f20, f21, f22, rfl, rfl, rfl, ?_, t1, g7, g8, gn, rfl⟩
    rcases hpos with h | h
    ·exact .inr ⟨h, rfl⟩
    ·exact .inl ⟨h, hal00 h⟩
   clear f3 f4 f5 f7 f8 f20 f21 f22
   intro f m' hrel
   rw [hJ] at hrel
   obtain ⟨j, a2, o, m2, hj, f3, f4, f5, f7, f8, f20, f21, f22, f57, f58, f59, ha2, htk2, hmo, hm8', hne2, rfl⟩ := hrel
   cases d1 : decide ((j : Int) < (out.length : Int)) with
   | true =>
    have hltj : j < out.length := by simpa using d1
    have gj := getD_map pS out j hltj
    have hij : IntKind.i64.wrap ((j : Int) + 1) = ((j + 1 : Nat) : Int) := by rw [wrap64 (by omega)]; omega
    have hmej : numOf (f 59) = j := by rw [f59]; exact Int.toNat_natCast j
    rcases ha2 with ⟨hk0, ha2⟩ | ⟨hk0, ha2⟩
    ·have hnin : hasS a2 out[j] = false := by
       apply hasS_no
       rw [ha2]
       have hnd : out.Nodup := by
        subst hk0
        exact hpo.nodup_iff.2 hDn
       intro hm
       obtain ⟨i, hi2, he⟩ := List.getElem_of_mem hm
       rw [List.getElem_take] at he
       have hij2 : i < j := by rw [List.length_take] at hi2; omega
       exact (List.pairwise_iff_getElem.1 hnd i j (by omega) hltj hij2) he
     have hcc := hct o a2 out[j]
     rw [hnin] at hcc
     have hfro := hmo.free
     have hLa := strN_one a2
     have h1 : ∀ x ∈ [pS out[j]], x.cells.length = 1 := strN_one [out[j]]
     have hlo : out.length ≤ 100 := by subst hk0; rw [hpo.length_eq]; exact hD
     have hla : a2.length ≤ 100 := by rw [ha2, List.length_take]; omega
     have hmx2 : a2.length + 1 ≤ maxLen := by unfold maxLen; omega
     (repeat (first | refine aSeq fun X hX => ?_ | apply aBlk | refine aSkip ?_ | (first | refine aExit ?_ | refine aRet ?_); try simp only [slx, ↓reduceIte, jA, reduceCtorEq] | (first | apply aReg | apply aIf); simp -implicitDefEqProofs only [↓slp, ↓reduceIte, reduceCtorEq, jA, jF, jH, Ya, f3, f4, f5, f7, f8, f57, f58, f59, pI, d1, gj] | apply hX; clear hX X | clear hX X; apply hX; clear hX X | intro hlen; unfold maxLen at hlen | apply And.intro; · first | assumption | and_intros <;> first | omega | assumption))
     refine callE (hcc _) ?_
     simp -implicitDefEqProofs only [↓slp, ↓reduceIte, reduceCtorEq, jA, jF, jH, Ya, pB, f7]
     (repeat (first | refine aSeq fun X hX => ?_ | apply aBlk | refine aSkip ?_ | (first | refine aExit ?_ | refine aRet ?_); try simp only [slx, ↓reduceIte, jA, reduceCtorEq] | (first | apply aReg | apply aIf); simp -implicitDefEqProofs only [↓slp, ↓reduceIte, reduceCtorEq, jA, jF, jH, Ya, f7, f59, pI, hij, pS] | apply hX; clear hX X | clear hX X; apply hX; clear hX X | intro hlen; unfold maxLen at hlen | apply And.intro; · first | assumption | and_intros <;> first | omega | assumption))
     rw [hJ]
     refine ⟨⟨j + 1, a2 ++ [out[j]], .tok m2.nt, (o.use m2).fresh 1, hltj, f3, f4, f5, by rw [List.map_append]; rfl, f8, f20, f21, f22, f57, f58, rfl, .inl ⟨hk0, by rw [ha2, List.take_succ_eq_append_getElem hltj]⟩, htk2.use hmo, Mine.new htk2 o 1, Mine.other (s := 1) hm8' hne2, Mine.ne_new hm8', rfl⟩, by omega⟩
    ·have hin : hasS a2 out[j] = true := by
       rw [hasS_iff, ha2]
       exact (hal1 hk0).mem_iff.2 ((hDs k hlt' hlt).2.1 _ (hpo.mem_iff.1 (List.getElem_mem hltj)))
     have hcc := hct o a2 out[j]
     rw [hin] at hcc
     (repeat (first | refine aSeq fun X hX => ?_ | apply aBlk | refine aSkip ?_ | (first | refine aExit ?_ | refine aRet ?_); try simp only [slx, ↓reduceIte, jA, reduceCtorEq] | (first | apply aReg | apply aIf); simp -implicitDefEqProofs only [↓slp, ↓reduceIte, reduceCtorEq, jA, jF, jH, Ya, f3, f4, f5, f7, f8, f57, f58, f59, pI, d1, gj] | apply hX; clear hX X | clear hX X; apply hX; clear hX X | intro hlen; unfold maxLen at hlen | apply And.intro; · first | assumption | and_intros <;> first | omega | assumption))
     refine callE (hcc _) ?_
     simp -implicitDefEqProofs only [↓slp, ↓reduceIte, reduceCtorEq, jA, jF, jH, Ya, pB, f7]
     (repeat (first | refine aSeq fun X hX => ?_ | apply aBlk | refine aSkip ?_ | (first | refine aExit ?_ | refine aRet ?_); try simp only [slx, ↓reduceIte, jA, reduceCtorEq] | (first | apply aReg | apply aIf); simp -implicitDefEqProofs only [↓slp, ↓reduceIte, reduceCtorEq, jA, jF, jH, Ya, f7, f59, pI, hij, pS] | apply hX; clear hX X | clear hX X; apply hX; clear hX X | intro hlen; unfold maxLen at hlen | apply And.intro; · first | assumption | and_intros <;> first | omega | assumption))
     rw [hJ]
     exact ⟨⟨j + 1, a2, o, m2, hltj, f3, f4, f5, f7, f8, f20, f21, f22, f57, f58, rfl, .inr ⟨hk0, ha2⟩, htk2, hmo, hm8', hne2, rfl⟩, by omega⟩
   | false =>
    have hj' : j = out.length := by simp at d1; omega
    subst hj'
    (repeat (first | refine aSeq fun X hX => ?_ | apply aBlk | refine aSkip ?_ | (first | refine aExit ?_ | refine aRet ?_); try simp only [slx, ↓reduceIte, jA, reduceCtorEq] | (first | apply aReg | apply aIf); simp -implicitDefEqProofs only [↓slp, ↓reduceIte, reduceCtorEq, jA, jF, jH, Ya, f3, f4, f5, f7, f8, f20, f21, f22, f57, f58, f59, pI, d1, hi] | apply hX; clear hX X | clear hX X; apply hX; clear hX X | intro hlen; unfold maxLen at hlen | apply And.intro; · first | assumption | and_intros <;> first | omega | assumption))
    rw [hI]
    refine ⟨⟨k + 1, a2, Ls ++ [out], o, .tok mm.nt, m2, hlt, f3, f4, f5, f7, f8, f20, f21, rfl, by simp [hLl], (fun h => absurd h (by omega)), fun _ => ?_, fun i h h' => ?_, htk2, hmo, hm8', hne2, rfl⟩, by omega⟩
    ·rcases ha2 with ⟨hk0, ha2⟩ | ⟨hk0, ha2⟩
     ·rw [ha2, List.take_length]
      subst hk0
      exact hpo
     ·rw [ha2]; exact hal1 hk0
    ·rw [List.getElem_append]
     split
     ·rename_i h9
      exact hLp i h9 h'
     ·rename_i h9
      have : i = k := by rw [List.length_append] at h; simp at h; omega
      subst this
      simp
      exact hpo
 | false =>
  have hkk : k = q.arms.length := by simp at c1; omega
  have hpos : 0 < k := by rw [hkk, ← hDl]; simp
  have hal := hal1 hpos
  (repeat (first | refine aSeq fun X hX => ?_ | apply aBlk | refine aSkip ?_ | (first | refine aExit ?_ | refine aRet ?_); try simp only [slx, ↓reduceIte, jA, reduceCtorEq] | (first | apply aReg | apply aIf); simp -implicitDefEqProofs only [↓slp, ↓reduceIte, reduceCtorEq, jA, jF, jH, Ya, f3, f4, f5, f7, f8, f20, f21, f22, pI, c1] | apply hX; clear hX X | clear hX X; apply hX; clear hX X | intro hlen; unfold maxLen at hlen | apply And.intro; · first | assumption | and_intros <;> first | omega | assumption))
  obtain ⟨I2, hI2⟩ : ∃ I2 : F → M → Prop, ∀ f m', I2 f m' = (∃ (i : Nat), i ≤ Ls.length ∧ f 4 = .ep [.sl .no (E.map Va.pv), .sl .no (O.map pS)] ∧ f 5 = .ep q.cs ∧ f 7 = .sl o7 (al.map pS) ∧ f 73 = .sl o8 (Ls.map pLS) ∧ f 74 = pI Ls.length ∧ f 75 = pI i ∧ mm = m') := ⟨_, fun _ _ => rfl⟩
  refine aLoop I2 (fun f m => Ls.length - numOf (f 75)) ?_ ?_
  ·rw [hI2]; exact ⟨0, by omega, f4, f5, f7, rfl, rfl, rfl, rfl⟩
  clear f3 f4 f5 f7 f8 f20 f21 f22
  intro f m' hrel
  rw [hI2] at hrel
  obtain ⟨i, hi, f4, f5, f7, f73, f74, f75, rfl⟩ := hrel
  cases d1 : decide ((i : Int) < (Ls.length : Int)) with
  | true =>
   have hlti : i < Ls.length := by simpa using d1
   have hltD : i < (D :: Dr).length := by omega
   have gi := getD_map pLS Ls i hlti
   have hii : IntKind.i64.wrap ((i : Int) + 1) = ((i + 1 : Nat) : Int) := by rw [wrap64 (by omega)]; omega
   have hmei : numOf (f 75) = i := by rw [f75]; exact Int.toNat_natCast i
   have hPi := hLp i hlti hltD
   have hDi := (hDs i hltD (by omega)).2.2.1
   generalize hLi : Ls[i] = L at *
   (repeat (first | refine aSeq fun X hX => ?_ | apply aBlk | refine aSkip ?_ | (first | refine aExit ?_ | refine aRet ?_); try simp only [slx, ↓reduceIte, jA, reduceCtorEq] | (first | apply aReg | apply aIf); simp -implicitDefEqProofs only [↓slp, ↓reduceIte, reduceCtorEq, jA, jF, jH, Ya, f4, f5, f7, f73, f74, f75, pI, d1, gi, pLS] | apply hX; clear hX X | clear hX X; apply hX; clear hX X | intro hlen; unfold maxLen at hlen | apply And.intro; · first | assumption | and_intros <;> first | omega | assumption))
   obtain ⟨J2, hJ2⟩ : ∃ J2 : F → M → Prop, ∀ f m', J2 f m' = (∃ (j : Nat), j ≤ al.length ∧ f 4 = .ep [.sl .no (E.map Va.pv), .sl .no (O.map pS)] ∧ f 5 = .ep q.cs ∧ f 7 = .sl o7 (al.map pS) ∧ f 15 = .sl .no (L.map pS) ∧ f 73 = .sl o8 (Ls.map pLS) ∧ f 74 = pI Ls.length ∧ f 75 = pI i ∧ f 80 = .sl o7 (al.map pS) ∧ f 81 = pI al.length ∧ f 82 = pI j ∧ mm = m') := ⟨_, fun _ _ => rfl⟩
   refine aLoop J2 (fun f m => al.length - numOf (f 82)) ?_ ?_
   ·rw [hJ2]; exact ⟨0, by omega, f4, f5, f7, rfl, f73, f74, f75, rfl, rfl, rfl, rfl⟩
   clear f4 f5 f7 f73 f74 f75
   intro f m' hrel
   rw [hJ2] at hrel
   obtain ⟨j, hj, f4, f5, f7, f15, f73, f74, f75, f80, f81, f82, rfl⟩ := hrel
   cases d2 : decide ((j : Int) < (al.length : Int)) with
   | true =>
    have hltj : j < al.length := by simpa using d2
    have gj := getD_map pS al j hltj
    have hij : IntKind.i64.wrap ((j : Int) + 1) = ((j + 1 : Nat) : Int) := by rw [wrap64 (by omega)]; omega
    have hmej : numOf (f 82) = j := by rw [f82]; exact Int.toNat_natCast j
    have hxD : al[j] ∈ D := hal.mem_iff.1 (List.getElem_mem hltj)
    have hcc := hct .no L al[j]
    have hfx := hfv al[j]
    rcases hDi _ hxD with hx | ⟨z, hz, hfz, hlz⟩
    ·rw [(hasS_iff _ _).2 (hPi.mem_iff.2 hx)] at hcc
     (repeat (first | refine aSeq fun X hX => ?_ | apply aBlk | refine aSkip ?_ | (first | refine aExit ?_ | refine aRet ?_); try simp only [slx, ↓reduceIte, jA, reduceCtorEq] | (first | apply aReg | apply aIf); simp -implicitDefEqProofs only [↓slp, ↓reduceIte, reduceCtorEq, jA, jF, jH, Ya, f4, f5, f7, f15, f80, f81, f82, pI, d2, gj] | apply hX; clear hX X | clear hX X; apply hX; clear hX X | intro hlen; unfold maxLen at hlen | apply And.intro; · first | assumption | and_intros <;> first | omega | assumption))
     refine callE (hfx _) ?_
     simp -implicitDefEqProofs only [↓slp, ↓reduceIte, reduceCtorEq, jA, jF, jH, Ya, f4, f5, f7, f15]
     (repeat (first | refine aSeq fun X hX => ?_ | apply aBlk | refine aSkip ?_ | (first | refine aExit ?_ | refine aRet ?_); try simp only [slx, ↓reduceIte, jA, reduceCtorEq] | (first | apply aReg | apply aIf); simp -implicitDefEqProofs only [↓slp, ↓reduceIte, reduceCtorEq, jA, jF, jH, Ya, f4, f5, f7, f15] | apply hX; clear hX X | clear hX X; apply hX; clear hX X | intro hlen; unfold maxLen at hlen | apply And.intro; · first | assumption | and_intros <;> first | omega | assumption))
     (repeat (first | refine aSeq fun X hX => ?_ | apply aBlk | refine aSkip ?_ | (first | refine aExit ?_ | refine aRet ?_); try simp only [slx, ↓reduceIte, jA, reduceCtorEq] | (first | apply aReg | refine aDrE ?_ | apply aIf); simp -implicitDefEqProofs only [↓slp, ↓reduceIte, reduceCtorEq, jA, jF, jH, Ya, f4, f5, f7, f15] | apply hX; clear hX X | clear hX X; apply hX; clear hX X | intro hlen; unfold maxLen at hlen | apply And.intro; · first | assumption | and_intros <;> first | omega | assumption))
     refine callE (hcc _) ?_
     simp -implicitDefEqProofs only [↓slp, ↓reduceIte, reduceCtorEq, jA, jF, jH, Ya, pB]
     (repeat (first | refine aSeq fun X hX => ?_ | apply aBlk | refine aSkip ?_ | (first | refine aExit ?_ | refine aRet ?_); try simp only [slx, ↓reduceIte, jA, reduceCtorEq] | (first | apply aReg | refine aDrE ?_ | apply aIf); simp -implicitDefEqProofs only [↓slp, ↓reduceIte, reduceCtorEq, jA, jF, jH, Ya, f82, pI, hij] | apply hX; clear hX X | clear hX X; apply hX; clear hX X | intro hlen; unfold maxLen at hlen | apply And.intro; · first | assumption | and_intros <;> first | omega | assumption))
     rw [hJ2]
     exact ⟨⟨j + 1, hltj, f4, f5, f7, f15, f73, f74, f75, f80, f81, rfl, rfl⟩, by omega⟩
    ·rw [hfz] at hfx
     have gz := getD_map Va.pv E z hz
     have dz : decide ((z : Int) < 0) = false := by simp
     cases hcb : hasS L al[j] with
     | true =>
      rw [hcb] at hcc
      (repeat (first | refine aSeq fun X hX => ?_ | apply aBlk | refine aSkip ?_ | (first | refine aExit ?_ | refine aRet ?_); try simp only [slx, ↓reduceIte, jA, reduceCtorEq] | (first | apply aReg | apply aIf); simp -implicitDefEqProofs only [↓slp, ↓reduceIte, reduceCtorEq, jA, jF, jH, Ya, f4, f5, f7, f15, f80, f81, f82, pI, d2, gj] | apply hX; clear hX X | clear hX X; apply hX; clear hX X | intro hlen; unfold maxLen at hlen | apply And.intro; · first | assumption | and_intros <;> first | omega | assumption))
      refine callE (hfx _) ?_
      simp -implicitDefEqProofs only [↓slp, ↓reduceIte, reduceCtorEq, jA, jF, jH, Ya, f4, f5, f7, f15]
      (repeat (first | refine aSeq fun X hX => ?_ | apply aBlk | refine aSkip ?_ | (first | refine aExit ?_ | refine aRet ?_); try simp only [slx, ↓reduceIte, jA, reduceCtorEq] | (first | apply aReg | apply aIf); simp -implicitDefEqProofs only [↓slp, ↓reduceIte, reduceCtorEq, jA, jF, jH, Ya, f4, f5, f7, f15] | apply hX; clear hX X | clear hX X; apply hX; clear hX X | intro hlen; unfold maxLen at hlen | apply And.intro; · first | assumption | and_intros <;> first | omega | assumption))
      (repeat (first | refine aSeq fun X hX => ?_ | apply aBlk | refine aSkip ?_ | (first | refine aExit ?_ | refine aRet ?_); try simp only [slx, ↓reduceIte, jA, reduceCtorEq] | (first | apply aReg | refine aDrE ?_ | apply aIf); simp -implicitDefEqProofs only [↓slp, ↓reduceIte, reduceCtorEq, jA, jF, jH, Ya, f4, f5, f7, f15] | apply hX; clear hX X | clear hX X; apply hX; clear hX X | intro hlen; unfold maxLen at hlen | apply And.intro; · first | assumption | and_intros <;> first | omega | assumption))
      refine callE (hcc _) ?_
      simp -implicitDefEqProofs only [↓slp, ↓reduceIte, reduceCtorEq, jA, jF, jH, Ya, pB]
      (repeat (first | refine aSeq fun X hX => ?_ | apply aBlk | refine aSkip ?_ | (first | refine aExit ?_ | refine aRet ?_); try simp only [slx, ↓reduceIte, jA, reduceCtorEq] | (first | apply aReg | refine aDrE ?_ | apply aIf); simp -implicitDefEqProofs only [↓slp, ↓reduceIte, reduceCtorEq, jA, jF, jH, Ya, f82, pI, hij] | apply hX; clear hX X | clear hX X; apply hX; clear hX X | intro hlen; unfold maxLen at hlen | apply And.intro; · first | assumption | and_intros <;> first | omega | assumption))
      rw [hJ2]
      exact ⟨⟨j + 1, hltj, f4, f5, f7, f15, f73, f74, f75, f80, f81, rfl, rfl⟩, by omega⟩
     | false =>
      rw [hcb] at hcc
      (repeat (first | refine aSeq fun X hX => ?_ | apply aBlk | refine aSkip ?_ | (first | refine aExit ?_ | refine aRet ?_); try simp only [slx, ↓reduceIte, jA, reduceCtorEq] | (first | apply aReg | apply aIf); simp -implicitDefEqProofs only [↓slp, ↓reduceIte, reduceCtorEq, jA, jF, jH, Ya, f4, f5, f7, f15, f80, f81, f82, pI, d2, gj] | apply hX; clear hX X | clear hX X; apply hX; clear hX X | intro hlen; unfold maxLen at hlen | apply And.intro; · first | assumption | and_intros <;> first | omega | assumption))
      refine callE (hfx _) ?_
      simp -implicitDefEqProofs only [↓slp, ↓reduceIte, reduceCtorEq, jA, jF, jH, Ya, f4, f5, f7, f15, dz]
      (repeat (first | refine aSeq fun X hX => ?_ | apply aBlk | refine aSkip ?_ | (first | refine aExit ?_ | refine aRet ?_); try simp only [slx, ↓reduceIte, jA, reduceCtorEq] | (first | apply aReg | apply aIf); simp -implicitDefEqProofs only [↓slp, ↓reduceIte, reduceCtorEq, jA, jF, jH, Ya, f4, f5, f7, f15, dz] | apply hX; clear hX X | clear hX X; apply hX; clear hX X | intro hlen; unfold maxLen at hlen | apply And.intro; · first | assumption | and_intros <;> first | omega | assumption))
      (repeat (first | refine aSeq fun X hX => ?_ | apply aBlk | refine aSkip ?_ | (first | refine aExit ?_ | refine aRet ?_); try simp only [slx, ↓reduceIte, jA, reduceCtorEq] | (first | apply aReg | refine aDrE ?_ | apply aIf); simp -implicitDefEqProofs only [↓slp, ↓reduceIte, reduceCtorEq, jA, jF, jH, Ya, f4, f5, f7, f15, dz] | apply hX; clear hX X | clear hX X; apply hX; clear hX X | intro hlen; unfold maxLen at hlen | apply And.intro; · first | assumption | and_intros <;> first | omega | assumption))
      refine callE (hcc _) ?_
      simp -implicitDefEqProofs only [↓slp, ↓reduceIte, reduceCtorEq, jA, jF, jH, Ya, pB, pI, dz, f4, gz, hz, hlz]
      (repeat (first | refine aSeq fun X hX => ?_ | apply aBlk | refine aSkip ?_ | (first | refine aExit ?_ | refine aRet ?_); try simp only [slx, ↓reduceIte, jA, reduceCtorEq] | (first | apply aReg | refine aDrE ?_ | apply aIf); simp -implicitDefEqProofs only [↓slp, ↓reduceIte, reduceCtorEq, jA, jF, jH, Ya, f4, f82, pI, hij, dz, gz, hz, hlz] | apply hX; clear hX X | clear hX X; apply hX; clear hX X | intro hlen; unfold maxLen at hlen | apply And.intro; · first | assumption | and_intros <;> first | omega | assumption))
      rw [hJ2]
      exact ⟨⟨j + 1, hltj, f4, f5, f7, f15, f73, f74, f75, f80, f81, rfl, rfl⟩, by omega⟩
   | false =>
    (repeat (first | refine aSeq fun X hX => ?_ | apply aBlk | refine aSkip ?_ | (first | refine aExit ?_ | refine aRet ?_); try simp only [slx, ↓reduceIte, jA, reduceCtorEq] | (first | apply aReg | apply aIf); simp -implicitDefEqProofs only [↓slp, ↓reduceIte, reduceCtorEq, jA, jF, jH, Ya, f4, f5, f7, f15, f73, f74, f75, f80, f81, f82, pI, d2, hii] | apply hX; clear hX X | clear hX X; apply hX; clear hX X | intro hlen; unfold maxLen at hlen | apply And.intro; · first | assumption | and_intros <;> first | omega | assumption))
    rw [hI2]
    exact ⟨⟨i + 1, hlti, f4, f5, f7, f73, f74, rfl, rfl⟩, by omega⟩
  | false =>
   (repeat (first | refine aSeq fun X hX => ?_ | apply aBlk | refine aSkip ?_ | (first | refine aExit ?_ | refine aRet ?_); try simp only [slx, ↓reduceIte, jA, reduceCtorEq] | (first | apply aReg | apply aIf); simp -implicitDefEqProofs only [↓slp, ↓reduceIte, reduceCtorEq, jA, jF, jH, Ya, f4, f5, f7, f73, f74, f75, pI, d1] | apply hX; clear hX X | clear hX X; apply hX; clear hX X | intro hlen; unfold maxLen at hlen | apply And.intro; · first | assumption | and_intros <;> first | omega | assumption))
   simp only [aPost, Tryd.results92, aRes_n, aRes_t, aRes_c, pack_one, pack_two]
   exact leave_toks0 htk rfl ⟨al, rfl, hal, rfl⟩
end Go.Proofs.YteiaedmipkcfeaaDoor

/-
 The place of a node by its name.
-/
set_option linter.unusedVariables false
set_option linter.unusedSimpArgs false
namespace Go.Proofs.YteiaedmipkcfeaaDoor
open Nat renaming reduceEqDiff → jA, reduceAdd → jB, reduceMul → jC, reduceLT → jD, reduceLeDiff → jE, reduceBEq → jF, reduceBNe → jG
open Int renaming reduceLE → jH, reduceLT → jI, reduceToNat → jJ, reduceEq → jK
open Go
set_option maxRecDepth 20000


set_option maxRecDepth 20000 in
set_option maxHeartbeats 1000000 in
theorem idxNo_any (o : Own) (l : List No) (p : No → Bool) (g : FuncId) (c : PV) (m : M) (hf : ∀ k (hk : k < l.length) (m : M), ACalls Tryd.prog g [No.pv l[k], c] m (fun v m' => v = pB (p l[k]) ∧ m' = m)) :
    ACalls Tryd.prog 42 [.sl o (l.map (No.pv)), .fn (.func g) [] [c]] m (fun v m' => v = pI (idxF p l 0) ∧ m' = m) := by
 refine ACalls.enter (mu := []) ok_mix Tryd.func42 rfl (by kernel_rfl) (by kernel_rfl) (by simp only [List.length_cons, List.length_nil, Tryd.ntmps42]; omega) ?_
 (repeat (first | refine aSeq fun X hX => ?_ | apply aBlk | refine aSkip ?_ | (first | refine aExit ?_ | refine aRet ?_); try simp only [slx, ↓reduceIte, jA, reduceCtorEq] | (first | apply aReg | refine aDrE ?_); simp -implicitDefEqProofs only [forall_eq, ↓slp, ↓reduceIte, reduceCtorEq, jA, jB, jC, jD, jE, jF, jG, jH, jI, jJ, jK, Ya]; try simp only [fo] | apply hX; clear hX X | clear hX X; apply hX; clear hX X | clear hX X; clear hX X; apply hX; clear hX X | intro hlen; unfold maxLen at hlen | apply And.intro; · first | assumption | and_intros <;> first | omega | assumption))
 obtain ⟨I, hI⟩ : ∃ I : F → M → Prop, ∀ f m', I f m' = (∃ k : Nat, k ≤ l.length ∧ f 0 = .sl o (l.map (No.pv)) ∧ f 1 = .fn (.func g) [] [c] ∧ f 7 = pI l.length ∧ f 8 = pI k ∧ idxF p l 0 = idxF p (l.drop k) k ∧ m' = m) := ⟨_, fun _ _ => rfl⟩
 refine aLoop I (fun f m => l.length - numOf (f 8)) ?_ ?_
 ·rw [hI]; exact ⟨0, by omega, rfl, rfl, rfl, rfl, rfl, rfl⟩
 intro f m' hrel
 rw [hI] at hrel
 obtain ⟨k, hk, h0, h1, h7, h8, hs, rfl⟩ := hrel
 (repeat (first | refine aSeq fun X hX => ?_ | apply aBlk | refine aSkip ?_ | (first | refine aExit ?_ | refine aRet ?_); try simp only [slx, ↓reduceIte, jA, reduceCtorEq] | (first | apply aReg | refine aDrE ?_); simp -implicitDefEqProofs only [forall_eq, ↓slp, ↓reduceIte, reduceCtorEq, jA, jB, jC, jD, jE, jF, jG, jH, jI, jJ, jK, Ya, h0, h1, h7, h8, pI]; try simp only [fo] | apply hX; clear hX X | clear hX X; apply hX; clear hX X | clear hX X; clear hX X; apply hX; clear hX X | intro hlen; unfold maxLen at hlen | apply And.intro; · first | assumption | and_intros <;> first | omega | assumption))
 refine aIf ?_; simp -implicitDefEqProofs only [↓slp, slb, ↓reduceIte, reduceCtorEq, jA, jB, jC, jD, jE, jF, jG, jH, jI, jJ, jK]; refine ⟨fun hb => ?_, fun hb => ?_⟩
 ·have hlt : k < l.length := by simpa using hb
  have g0 := getD_map (No.pv) l k hlt
  have hi : IntKind.i64.wrap ((k : Int) + 1) = ((k + 1 : Nat) : Int) := by rw [wrap64 (by omega)]; omega
  have hd := idxF_drop (p := p) hlt
  (repeat (first | refine aSeq fun X hX => ?_ | apply aBlk | refine aSkip ?_ | (first | refine aExit ?_ | refine aRet ?_); try simp only [slx, ↓reduceIte, jA, reduceCtorEq] | (first | apply aReg | refine aDrE ?_); simp -implicitDefEqProofs only [forall_eq, ↓slp, ↓reduceIte, reduceCtorEq, jA, jB, jC, jD, jE, jF, jG, jH, jI, jJ, jK, Ya, h0, h1, h7, h8, pI, g0]; try simp only [fo] | apply hX; clear hX X | clear hX X; apply hX; clear hX X | clear hX X; clear hX X; apply hX; clear hX X | intro hlen; unfold maxLen at hlen | apply And.intro; · first | assumption | and_intros <;> first | omega | assumption))
  refine callE (hf k hlt _) ?_
  simp -implicitDefEqProofs only [↓slp, ↓reduceIte, reduceCtorEq, jA, jB, jC, jD, jE, jF, jG, jH, jI, jJ, jK, Ya, h0, h1, h7, h8, pI, pB]; try simp only [fo]
  cases c1 : p l[k] with
  | true =>
   (repeat (first | refine aSeq fun X hX => ?_ | apply aBlk | refine aSkip ?_ | (first | refine aExit ?_ | refine aRet ?_); try simp only [slx, ↓reduceIte, jA, reduceCtorEq] | (first | apply aReg | refine aDrE ?_); simp -implicitDefEqProofs only [forall_eq, ↓slp, ↓reduceIte, reduceCtorEq, jA, jB, jC, jD, jE, jF, jG, jH, jI, jJ, jK, Ya, h0, h1, h7, h8, pI, g0, c1]; try simp only [fo] | apply hX; clear hX X | clear hX X; apply hX; clear hX X | clear hX X; clear hX X; apply hX; clear hX X | intro hlen; unfold maxLen at hlen | apply And.intro; · first | assumption | and_intros <;> first | omega | assumption))
   refine aIf ?_; simp -implicitDefEqProofs only [↓slp, slb, ↓reduceIte, reduceCtorEq, jA, jB, jC, jD, jE, jF, jG, jH, jI, jJ, jK, c1]
   (repeat (first | refine aSeq fun X hX => ?_ | apply aBlk | refine aSkip ?_ | (first | refine aExit ?_ | refine aRet ?_); try simp only [slx, ↓reduceIte, jA, reduceCtorEq] | (first | apply aReg | refine aDrE ?_); simp -implicitDefEqProofs only [forall_eq, ↓slp, ↓reduceIte, reduceCtorEq, jA, jB, jC, jD, jE, jF, jG, jH, jI, jJ, jK, Ya]; try simp only [fo] | apply hX; clear hX X | clear hX X; apply hX; clear hX X | clear hX X; clear hX X; apply hX; clear hX X | intro hlen; unfold maxLen at hlen | apply And.intro; · first | assumption | and_intros <;> first | omega | assumption))
   simp only [aPost, Tryd.results42, aRes_n, aRes_t, aRes_c, pack_one, pack_two]
   refine leave_same rfl ⟨?_, rfl⟩
   have hv : idxF p l 0 = (k : Int) := by rw [hs, hd]; simp [c1]
   rw [hv]; rfl
  | false =>
   (repeat (first | refine aSeq fun X hX => ?_ | apply aBlk | refine aSkip ?_ | (first | refine aExit ?_ | refine aRet ?_); try simp only [slx, ↓reduceIte, jA, reduceCtorEq] | (first | apply aReg | refine aDrE ?_); simp -implicitDefEqProofs only [forall_eq, ↓slp, ↓reduceIte, reduceCtorEq, jA, jB, jC, jD, jE, jF, jG, jH, jI, jJ, jK, Ya, h0, h1, h7, h8, pI, g0, c1]; try simp only [fo] | apply hX; clear hX X | clear hX X; apply hX; clear hX X | clear hX X; clear hX X; apply hX; clear hX X | intro hlen; unfold maxLen at hlen | apply And.intro; · first | assumption | and_intros <;> first | omega | assumption))
   refine aIf ?_; simp -implicitDefEqProofs only [↓slp, slb, ↓reduceIte, reduceCtorEq, jA, jB, jC, jD, jE, jF, jG, jH, jI, jJ, jK, c1]
   (repeat (first | refine aSeq fun X hX => ?_ | apply aBlk | refine aSkip ?_ | (first | refine aExit ?_ | refine aRet ?_); try simp only [slx, ↓reduceIte, jA, reduceCtorEq] | (first | apply aReg | refine aDrE ?_); simp -implicitDefEqProofs only [forall_eq, ↓slp, ↓reduceIte, reduceCtorEq, jA, jB, jC, jD, jE, jF, jG, jH, jI, jJ, jK, Ya, h0, h1, h7, h8, pI, hi]; try simp only [fo] | apply hX; clear hX X | clear hX X; apply hX; clear hX X | clear hX X; clear hX X; apply hX; clear hX X | intro hlen; unfold maxLen at hlen | apply And.intro; · first | assumption | and_intros <;> first | omega | assumption))
   rw [hI]
   refine ⟨⟨k + 1, hlt, h0, h1, h7, rfl, by rw [hs, hd]; simp [c1], rfl⟩, ?_⟩
   first | omega | (simp only [↓slp, slb, ↓reduceIte, reduceCtorEq, jA, jB, jC, jD, jE, jF, jG, jH, jI, jJ, jK, h8, pI]; omega)
 ·have hlt : k = l.length := by simp at hb; omega
  subst hlt
  (repeat (first | refine aSeq fun X hX => ?_ | apply aBlk | refine aSkip ?_ | (first | refine aExit ?_ | refine aRet ?_); try simp only [slx, ↓reduceIte, jA, reduceCtorEq] | (first | apply aReg | refine aDrE ?_); simp -implicitDefEqProofs only [forall_eq, ↓slp, ↓reduceIte, reduceCtorEq, jA, jB, jC, jD, jE, jF, jG, jH, jI, jJ, jK, Ya]; try simp only [fo] | apply hX; clear hX X | clear hX X; apply hX; clear hX X | clear hX X; clear hX X; apply hX; clear hX X | intro hlen; unfold maxLen at hlen | apply And.intro; · first | assumption | and_intros <;> first | omega | assumption))
  simp only [aPost, Tryd.results42, aRes_n, aRes_t, aRes_c, pack_one, pack_two]
  refine leave_same rfl ⟨?_, rfl⟩
  have hv : idxF p l 0 = -1 := by rw [hs]; simp [idxF]
  rw [hv]; rfl

set_option maxHeartbeats 1000000 in
theorem findNodeC (n : No) (s : Str) (m : M) : ACalls Tryd.prog 43 [n.pv, .ep [pS s]] m (fun v m' => v = pB (eqS n.name s) ∧ m' = m) := by
 refine ACalls.enter (mu := []) ok_mix Tryd.func43 rfl (by kernel_rfl) (by kernel_rfl) (by simp only [List.length_cons, List.length_nil, Tryd.ntmps43]; omega) ?_
 (repeat (first | refine aSeq fun X hX => ?_ | apply aBlk | refine aSkip ?_ | (first | refine aExit ?_ | refine aRet ?_); try simp only [slx, ↓reduceIte, jA, reduceCtorEq] | (first | apply aReg | refine aDrE ?_); simp -implicitDefEqProofs only [forall_eq, ↓slp, ↓reduceIte, reduceCtorEq, jA, jB, jC, jD, jE, jF, jG, jH, jI, jJ, jK, Ya, pS]; try simp only [fo] | apply hX; clear hX X | clear hX X; apply hX; clear hX X | clear hX X; clear hX X; apply hX; clear hX X | intro hlen; unfold maxLen at hlen | apply And.intro; · first | assumption | and_intros <;> first | omega | assumption))
 simp only [aPost, Tryd.results43, aRes_n, aRes_t, aRes_c, pack_one, pack_two]
 exact leave_same rfl ⟨rfl, rfl⟩
theorem findNode_any (o : Own) (es : List PV) (ns : List No) (s : Str) (m : M) : ACalls Tryd.prog 23 [.ag [.sl .no es, .sl .no (ns.map No.pv)], pS s] m (fun v m' => v = pI (idxF (fun n : No => eqS n.name s) ns 0) ∧ m' = m) := by
 have hx := fun (o : Own) m => idxNo_any o ns (fun n : No => eqS n.name s) 43 (.ep [pS s]) m (fun j hj m => findNodeC ns[j] _ m)
 refine ACalls.enter (mu := []) ok_mix Tryd.func23 rfl (by kernel_rfl) (by kernel_rfl) (by simp only [List.length_cons, List.length_nil, Tryd.ntmps23]; omega) ?_
 (repeat (first | refine aSeq fun X hX => ?_ | apply aBlk | refine aSkip ?_ | (first | refine aExit ?_ | refine aRet ?_); try simp only [slx, ↓reduceIte, jA, reduceCtorEq] | (first | apply aReg | refine aDrE ?_); simp -implicitDefEqProofs only [forall_eq, ↓slp, ↓reduceIte, reduceCtorEq, jA, jB, jC, jD, jE, jF, jG, jH, jI, jJ, jK, Ya, pS]; try simp only [fo] | apply hX; clear hX X | clear hX X; apply hX; clear hX X | clear hX X; clear hX X; apply hX; clear hX X | intro hlen; unfold maxLen at hlen | apply And.intro; · first | assumption | and_intros <;> first | omega | assumption))
 refine callE (hx _ _) ?_
 simp -implicitDefEqProofs only [↓slp, ↓reduceIte, reduceCtorEq, jA, jB, jC, jD, jE, jF, jG, jH, jI, jJ, jK, Ya, pI]; try simp only [fo]
 (repeat (first | refine aSeq fun X hX => ?_ | apply aBlk | refine aSkip ?_ | (first | refine aExit ?_ | refine aRet ?_); try simp only [slx, ↓reduceIte, jA, reduceCtorEq] | (first | apply aReg | refine aDrE ?_); simp -implicitDefEqProofs only [forall_eq, ↓slp, ↓reduceIte, reduceCtorEq, jA, jB, jC, jD, jE, jF, jG, jH, jI, jJ, jK, Ya]; try simp only [fo] | apply hX; clear hX X | clear hX X; apply hX; clear hX X | clear hX X; clear hX X; apply hX; clear hX X | intro hlen; unfold maxLen at hlen | apply And.intro; · first | assumption | and_intros <;> first | omega | assumption))
 simp only [aPost, Tryd.results23, aRes_n, aRes_t, aRes_c, pack_one, pack_two]
 exact leave_same rfl ⟨rfl, rfl⟩
end Go.Proofs.YteiaedmipkcfeaaDoor

/-
 names: equations.
-/
set_option linter.unusedVariables false
set_option linter.unusedSimpArgs false
namespace Go.Proofs.YteiaedmipkcfeaaDoor
open Nat renaming reduceEqDiff → jA, reduceAdd → jB, reduceMul → jC, reduceLT → jD, reduceLeDiff → jE, reduceBEq → jF, reduceBNe → jG
open Int renaming reduceLE → jH, reduceLT → jI, reduceToNat → jJ, reduceEq → jK
open Go
set_option maxRecDepth 20000


set_option maxHeartbeats 1000000 in
theorem findNode_nm (es : List PV) {ns : List No} (hns : NsN ns) {k : Nat} (hk : k < ns.length) (m : M) : ACalls Tryd.prog 23 [.ag [.sl .no es, .sl .no (ns.map No.pv)], pS (nameS ⟨#[102]⟩ k)] m (fun v m' => v = pI k ∧ m' = m) := by
 have hv : idxF (fun n : No => eqS n.name (nameS ⟨#[102]⟩ k)) ns 0 = (k : Int) := by
  rcases idxF_at (p := fun n : No => eqS n.name (nameS ⟨#[102]⟩ k)) ns 0 with ⟨_, h2⟩ | ⟨j, hj, h1, h2, _⟩
  ·have := h2 ns[k] (List.getElem_mem hk)
   rw [hns.2 k hk] at this
   simp [eqS] at this
  ·rw [h1]
   have h3 := eqS_iff.1 h2
   rw [hns.2 j hj] at h3
   have := (nm_inj h3).2
   omega
 have hx := fun (o : Own) m => idxNo_any o ns (fun n : No => eqS n.name (nameS ⟨#[102]⟩ k)) 43 (.ep [pS (nameS ⟨#[102]⟩ k)]) m (fun j hj m => findNodeC ns[j] _ m)
 rw [hv] at hx
 refine ACalls.enter (mu := []) ok_mix Tryd.func23 rfl (by kernel_rfl) (by kernel_rfl) (by simp only [List.length_cons, List.length_nil, Tryd.ntmps23]; omega) ?_
 (repeat (first | refine aSeq fun X hX => ?_ | apply aBlk | refine aSkip ?_ | (first | refine aExit ?_ | refine aRet ?_); try simp only [slx, ↓reduceIte, jA, reduceCtorEq] | (first | apply aReg | refine aDrE ?_); simp -implicitDefEqProofs only [↓slp, ↓reduceIte, reduceCtorEq, jA, jF, jJ, Ya, pS]; try simp only [fo] | apply hX; clear hX X | clear hX X; apply hX; clear hX X | intro hlen; unfold maxLen at hlen | apply And.intro; · first | assumption | and_intros <;> first | omega | assumption))
 refine callE (hx _ _) ?_
 simp -implicitDefEqProofs only [↓slp, ↓reduceIte, reduceCtorEq, jA, jF, jJ, Ya, pI]; try simp only [fo]
 (repeat (first | refine aSeq fun X hX => ?_ | apply aBlk | refine aSkip ?_ | (first | refine aExit ?_ | refine aRet ?_); try simp only [slx, ↓reduceIte, jA, reduceCtorEq] | (first | apply aReg | refine aDrE ?_); simp -implicitDefEqProofs only [↓slp, ↓reduceIte, reduceCtorEq, jA, jF, jJ, Ya]; try simp only [fo] | apply hX; clear hX X | clear hX X; apply hX; clear hX X | intro hlen; unfold maxLen at hlen | apply And.intro; · first | assumption | and_intros <;> first | omega | assumption))
 simp only [aPost, Tryd.results23, aRes_n, aRes_t, aRes_c, pack_one, pack_two]
 exact leave_same rfl ⟨rfl, rfl⟩
set_option maxHeartbeats 8000000 in
theorem eqN_any (ns : List No) (hns : NsN ns) {PB : List Va → List Str → List Va → List Qu → Prop} (hPB : ∀ E D V Q, PB E D V Q → BlkN ns E D V Q) {E : List Va} {O D : List Str} {q : Qu} (hq : NmQ ns PB E D q) (hO : ∀ z ∈ D, z ∈ O) (hOE : O.length ≤ E.length) (hD : D.length ≤ 100) (hDn : D.Nodup) (m : M) :
    ACalls Tryd.prog 76 [lkP ns, scN E O, q.pv] m (fun v m' => ∃ r : List Str, v = .sl .no (r.map pS) ∧ r.Perm D ∧ (r = q.lhs ∨ q.lhs = []) ∧ m' = m) := by
 have hE := fun (e : Ex) (h : NmE E e) m => exN_any ns h O m
 have hB := fun D V Q (h : PB E D V Q) m x => hPB E D V Q h O m x
 have hF := fun (k : Nat) (hk : k < ns.length) m => findNode_nm [.ag colC] hns hk m
 have hA := fun hk (h : NmA PB E D q.arms) m => armsN_any ns hPB (q := q) hk h hO hOE hD hDn m
 rw [Qu.pv_eq] at hA
 simp only [Qu.cs] at hA
 unfold lkP scN colC at *
 have hnf : ofV Value.nilFunc = .v .nilFunc := rfl
 rcases hq with ⟨hk, hl, he⟩ | ⟨hk, ⟨k, hkl, hnm⟩, hl, ha, hhas⟩ | ⟨hk, hl, ⟨a, r, har, ha⟩, he⟩ | ⟨hk, hl, ha⟩
 ·
  have c1 : (q.kind == 1) = true := by simp [hk]
  have c2 : (q.kind == 2) = false := by simp [hk]
  have c5 : (q.kind == 5) = false := by simp [hk]
  have c3 : (q.kind == 3) = false := by simp [hk]
  refine ACalls.enter (mu := []) ok_mix Tryd.func76 rfl (by kernel_rfl) (by kernel_rfl) (by simp only [List.length_cons, List.length_nil, Tryd.ntmps76]; omega) ?_
  (repeat (first | refine aSeq fun X hX => ?_ | apply aBlk | refine aSkip ?_ | (first | refine aExit ?_ | refine aRet ?_); try simp only [slx, ↓reduceIte, jA, reduceCtorEq] | (first | apply aReg | apply aIf); simp -implicitDefEqProofs only [↓slp, ↓reduceIte, reduceCtorEq, jA, jF, jJ, Ya, c1, c2, c5, c3]; try simp only [fo] | apply hX; clear hX X | clear hX X; apply hX; clear hX X | intro hlen; unfold maxLen at hlen | apply And.intro; · first | assumption | and_intros <;> first | omega | assumption))
  refine callMS (hE q.e he _) (by simp only [List.map_cons, List.map_nil, PV.settle, PV.settles, Ex.settle_pv]) ?_
  rintro v mc ⟨rfl, hmc⟩
  subst hmc
  simp -implicitDefEqProofs only [↓slp, ↓reduceIte, reduceCtorEq, jA, jF, jJ, Ya, c1, c2, c5, c3]; try simp only [fo]
  (repeat (first | refine aSeq fun X hX => ?_ | apply aBlk | refine aSkip ?_ | (first | refine aExit ?_ | refine aRet ?_); try simp only [slx, ↓reduceIte, jA, reduceCtorEq] | (first | apply aReg | apply aIf); simp -implicitDefEqProofs only [↓slp, ↓reduceIte, reduceCtorEq, jA, jF, jJ, Ya, c1, c2, c5, c3]; try simp only [fo] | apply hX; clear hX X | clear hX X; apply hX; clear hX X | intro hlen; unfold maxLen at hlen | apply And.intro; · first | assumption | and_intros <;> first | omega | assumption))
  simp only [aPost, Tryd.results76, aRes_n, aRes_t, aRes_c, pack_one, pack_two]
  exact leave_same rfl ⟨q.lhs, rfl, by rw [hl], .inl rfl, rfl⟩
 ·
  have c1 : (q.kind == 1) = false := by simp [hk]
  have c2 : (q.kind == 2) = true := by simp [hk]
  have c5 : (q.kind == 5) = false := by simp [hk]
  have c3 : (q.kind == 3) = false := by simp [hk]
  have dz : decide ((k : Int) < 0) = false := by simp
  refine ACalls.enter (mu := []) ok_mix Tryd.func76 rfl (by kernel_rfl) (by kernel_rfl) (by simp only [List.length_cons, List.length_nil, Tryd.ntmps76]; omega) ?_
  (repeat (first | refine aSeq fun X hX => ?_ | apply aBlk | refine aSkip ?_ | (first | refine aExit ?_ | refine aRet ?_); try simp only [slx, ↓reduceIte, jA, reduceCtorEq] | (first | apply aReg | apply aIf); simp -implicitDefEqProofs only [↓slp, ↓reduceIte, reduceCtorEq, jA, jF, jJ, Ya, c1, c2, c5, c3]; try simp only [fo] | apply hX; clear hX X | clear hX X; apply hX; clear hX X | intro hlen; unfold maxLen at hlen | apply And.intro; · first | assumption | and_intros <;> first | omega | assumption))
  (repeat (first | refine aSeq fun X hX => ?_ | apply aBlk | refine aSkip ?_ | (first | refine aExit ?_ | refine aRet ?_); try simp only [slx, ↓reduceIte, jA, reduceCtorEq] | (first | apply aReg | refine aDrE ?_ | apply aIf); simp -implicitDefEqProofs only [↓slp, ↓reduceIte, reduceCtorEq, jA, jF, jJ, Ya, hnm]; try simp only [fo] | apply hX; clear hX X | clear hX X; apply hX; clear hX X | intro hlen; unfold maxLen at hlen | apply And.intro; · first | assumption | and_intros <;> first | omega | assumption))
  refine callE (hF k hkl _) ?_
  simp -implicitDefEqProofs only [↓slp, ↓reduceIte, reduceCtorEq, jA, jF, jJ, Ya, pI, dz]; try simp only [fo]
  (repeat (first | refine aSeq fun X hX => ?_ | apply aBlk | refine aSkip ?_ | (first | refine aExit ?_ | refine aRet ?_); try simp only [slx, ↓reduceIte, jA, reduceCtorEq] | (first | apply aReg | apply aIf); simp -implicitDefEqProofs only [↓slp, ↓reduceIte, reduceCtorEq, jA, jF, jJ, Ya, dz]; try simp only [fo] | apply hX; clear hX X | clear hX X; apply hX; clear hX X | intro hlen; unfold maxLen at hlen | apply And.intro; · first | assumption | and_intros <;> first | omega | assumption))
  obtain ⟨I, hI⟩ : ∃ I : F → M → Prop, ∀ f m', I f m' = (∃ i : Nat, i ≤ q.args.length ∧ f 0 = .ep [.sl .no [.ag [.v (.string sCol), .sl .no [pS sRed, pS sGreen, pS sBlue], .v (.int .i64 0), .v (.int .i64 0)]], .sl .no (ns.map No.pv)] ∧ f 4 = .ep [.sl .no (E.map Va.pv), .sl .no (O.map pS)] ∧ f 5 = .ep q.cs ∧ f 35 = .sl .no (q.args.map Ex.pv) ∧ f 36 = pI q.args.length ∧ f 37 = pI i ∧ m = m') := ⟨_, fun _ _ => rfl⟩
  refine aLoop I (fun f m => q.args.length - numOf (f 37)) ?_ ?_
  ·rw [hI]; exact ⟨0, by omega, rfl, rfl, by rw [Qu.cs, hnm]; rfl, rfl, rfl, rfl, rfl⟩
  intro f m' hrel
  rw [hI] at hrel
  obtain ⟨i, hi', f0, f4, f5, f35, f36, f37, rfl⟩ := hrel
  cases d1 : decide ((i : Int) < (q.args.length : Int)) with
  | true =>
   have hlt : i < q.args.length := by simpa using d1
   have g0 := getD_map Ex.pv q.args i hlt
   have hi : IntKind.i64.wrap ((i : Int) + 1) = ((i + 1 : Nat) : Int) := by rw [wrap64 (by omega)]; omega
   have hme : numOf (f 37) = i := by rw [f37]; exact Int.toNat_natCast i
   (repeat (first | refine aSeq fun X hX => ?_ | apply aBlk | refine aSkip ?_ | (first | refine aExit ?_ | refine aRet ?_); try simp only [slx, ↓reduceIte, jA, reduceCtorEq] | (first | apply aReg | apply aIf); simp -implicitDefEqProofs only [↓slp, ↓reduceIte, reduceCtorEq, jA, jF, jJ, Ya, f0, f4, f5, f35, f36, f37, pI, d1, g0]; try simp only [fo] | apply hX; clear hX X | clear hX X; apply hX; clear hX X | intro hlen; unfold maxLen at hlen | apply And.intro; · first | assumption | and_intros <;> first | omega | assumption))
   refine callE (hE _ (ha _ (List.getElem_mem hlt)) _) ?_
   simp -implicitDefEqProofs only [↓slp, ↓reduceIte, reduceCtorEq, jA, jF, jJ, Ya]; try simp only [fo]
   (repeat (first | refine aSeq fun X hX => ?_ | apply aBlk | refine aSkip ?_ | (first | refine aExit ?_ | refine aRet ?_); try simp only [slx, ↓reduceIte, jA, reduceCtorEq] | (first | apply aReg | apply aIf); simp -implicitDefEqProofs only [↓slp, ↓reduceIte, reduceCtorEq, jA, jF, jJ, Ya, f37, pI, hi]; try simp only [fo] | apply hX; clear hX X | clear hX X; apply hX; clear hX X | intro hlen; unfold maxLen at hlen | apply And.intro; · first | assumption | and_intros <;> first | omega | assumption))
   rw [hI]
   exact ⟨⟨i + 1, hlt, f0, f4, f5, f35, f36, rfl, rfl⟩, by omega⟩
  | false =>
   cases hh : q.has with
   | false =>
    (repeat (first | refine aSeq fun X hX => ?_ | apply aBlk | refine aSkip ?_ | (first | refine aExit ?_ | refine aRet ?_); try simp only [slx, ↓reduceIte, jA, reduceCtorEq] | (first | apply aReg | apply aIf); simp -implicitDefEqProofs only [↓slp, ↓reduceIte, reduceCtorEq, jA, jF, jJ, Ya, f0, f4, f5, f35, f36, f37, pI, d1, hh]; try simp only [fo] | apply hX; clear hX X | clear hX X; apply hX; clear hX X | intro hlen; unfold maxLen at hlen | apply And.intro; · first | assumption | and_intros <;> first | omega | assumption))
    simp only [aPost, Tryd.results76, aRes_n, aRes_t, aRes_c, pack_one, pack_two]
    exact leave_same rfl ⟨q.lhs, rfl, by rw [hl], .inl rfl, rfl⟩
   | true =>
    (repeat (first | refine aSeq fun X hX => ?_ | apply aBlk | refine aSkip ?_ | (first | refine aExit ?_ | refine aRet ?_); try simp only [slx, ↓reduceIte, jA, reduceCtorEq] | (first | apply aReg | apply aIf); simp -implicitDefEqProofs only [↓slp, ↓reduceIte, reduceCtorEq, jA, jF, jJ, Ya, f0, f4, f5, f35, f36, f37, pI, d1, hh]; try simp only [fo] | apply hX; clear hX X | clear hX X; apply hX; clear hX X | intro hlen; unfold maxLen at hlen | apply And.intro; · first | assumption | and_intros <;> first | omega | assumption))
    refine callMS (hE q.e (hhas hh) _) (by simp only [List.map_cons, List.map_nil, PV.settle, PV.settles, Ex.settle_pv]) ?_
    rintro v mc ⟨rfl, hmc⟩
    subst hmc
    simp -implicitDefEqProofs only [↓slp, ↓reduceIte, reduceCtorEq, jA, jF, jJ, Ya, f5]; try simp only [fo]
    (repeat (first | refine aSeq fun X hX => ?_ | apply aBlk | refine aSkip ?_ | (first | refine aExit ?_ | refine aRet ?_); try simp only [slx, ↓reduceIte, jA, reduceCtorEq] | (first | apply aReg | apply aIf); simp -implicitDefEqProofs only [↓slp, ↓reduceIte, reduceCtorEq, jA, jF, jJ, Ya, f5]; try simp only [fo] | apply hX; clear hX X | clear hX X; apply hX; clear hX X | intro hlen; unfold maxLen at hlen | apply And.intro; · first | assumption | and_intros <;> first | omega | assumption))
    simp only [aPost, Tryd.results76, aRes_n, aRes_t, aRes_c, pack_one, pack_two]
    exact leave_same rfl ⟨q.lhs, rfl, by rw [hl], .inl rfl, rfl⟩
 ·
  have c1 : (q.kind == 1) = false := by simp [hk]
  have c2 : (q.kind == 2) = false := by simp [hk]
  have c5 : (q.kind == 5) = true := by simp [hk]
  have c3 : (q.kind == 3) = false := by simp [hk]
  refine ACalls.enter (mu := []) ok_mix Tryd.func76 rfl (by kernel_rfl) (by kernel_rfl) (by simp only [List.length_cons, List.length_nil, Tryd.ntmps76]; omega) ?_
  (repeat (first | refine aSeq fun X hX => ?_ | apply aBlk | refine aSkip ?_ | (first | refine aExit ?_ | refine aRet ?_); try simp only [slx, ↓reduceIte, jA, reduceCtorEq] | (first | apply aReg | apply aIf); simp -implicitDefEqProofs only [↓slp, ↓reduceIte, reduceCtorEq, jA, jF, jJ, Ya, c1, c2, c5, c3, har]; try simp only [fo] | apply hX; clear hX X | clear hX X; apply hX; clear hX X | intro hlen; unfold maxLen at hlen | apply And.intro; · first | assumption | and_intros <;> first | omega | assumption))
  (repeat (first | refine aSeq fun X hX => ?_ | apply aBlk | refine aSkip ?_ | (first | refine aExit ?_ | refine aRet ?_); try simp only [slx, ↓reduceIte, jA, reduceCtorEq] | (first | apply aReg | refine aDrE ?_ | apply aIf); simp -implicitDefEqProofs only [↓slp, ↓reduceIte, reduceCtorEq, jA, jF, jJ, Ya, hnf, har]; try simp only [fo] | apply hX; clear hX X | clear hX X; apply hX; clear hX X | intro hlen; unfold maxLen at hlen | apply And.intro; · first | assumption | and_intros <;> first | omega | assumption))
  refine callM (hB _ _ _ ha _ _ hO hOE (.inl rfl)) ?_
  rintro v mc ⟨out, rfl, hpo, hmc⟩
  subst hmc
  simp -implicitDefEqProofs only [↓slp, ↓reduceIte, reduceCtorEq, jA, jF, jJ, Ya, har]; try simp only [fo]
  (repeat (first | refine aSeq fun X hX => ?_ | apply aBlk | refine aSkip ?_ | (first | refine aExit ?_ | refine aRet ?_); try simp only [slx, ↓reduceIte, jA, reduceCtorEq] | (first | apply aReg | apply aIf); simp -implicitDefEqProofs only [↓slp, ↓reduceIte, reduceCtorEq, jA, jF, jJ, Ya, har]; try simp only [fo] | apply hX; clear hX X | clear hX X; apply hX; clear hX X | intro hlen; unfold maxLen at hlen | apply And.intro; · first | assumption | and_intros <;> first | omega | assumption))
  refine callMS (hE q.e he _) (by simp only [List.map_cons, List.map_nil, PV.settle, PV.settles, Ex.settle_pv]) ?_
  rintro v mc ⟨rfl, hmc⟩
  subst hmc
  simp -implicitDefEqProofs only [↓slp, ↓reduceIte, reduceCtorEq, jA, jF, jJ, Ya]; try simp only [fo]
  (repeat (first | refine aSeq fun X hX => ?_ | apply aBlk | refine aSkip ?_ | (first | refine aExit ?_ | refine aRet ?_); try simp only [slx, ↓reduceIte, jA, reduceCtorEq] | (first | apply aReg | apply aIf); simp -implicitDefEqProofs only [↓slp, ↓reduceIte, reduceCtorEq, jA, jF, jJ, Ya]; try simp only [fo] | apply hX; clear hX X | clear hX X; apply hX; clear hX X | intro hlen; unfold maxLen at hlen | apply And.intro; · first | assumption | and_intros <;> first | omega | assumption))
  simp only [aPost, Tryd.results76, aRes_n, aRes_t, aRes_c, pack_one, pack_two]
  exact leave_same rfl ⟨out, rfl, hpo, .inr hl, rfl⟩
 ·rcases hk with ⟨hk, he⟩ | ⟨hk, hnd⟩
  ·
   have c1 : (q.kind == 1) = false := by simp [hk]
   have c2 : (q.kind == 2) = false := by simp [hk]
   have c5 : (q.kind == 5) = false := by simp [hk]
   have c3 : (q.kind == 3) = true := by simp [hk]
   refine ACalls.enter (mu := []) ok_mix Tryd.func76 rfl (by kernel_rfl) (by kernel_rfl) (by simp only [List.length_cons, List.length_nil, Tryd.ntmps76]; omega) ?_
   (repeat (first | refine aSeq fun X hX => ?_ | apply aBlk | refine aSkip ?_ | (first | refine aExit ?_ | refine aRet ?_); try simp only [slx, ↓reduceIte, jA, reduceCtorEq] | (first | apply aReg | apply aIf); simp -implicitDefEqProofs only [↓slp, ↓reduceIte, reduceCtorEq, jA, jF, jJ, Ya, c1, c2, c5, c3]; try simp only [fo] | apply hX; clear hX X | clear hX X; apply hX; clear hX X | intro hlen; unfold maxLen at hlen | apply And.intro; · first | assumption | and_intros <;> first | omega | assumption))
   refine callMS (hE q.e he _) (by simp only [List.map_cons, List.map_nil, PV.settle, PV.settles, Ex.settle_pv]) ?_
   rintro v mc ⟨rfl, hmc⟩
   subst hmc
   simp -implicitDefEqProofs only [↓slp, ↓reduceIte, reduceCtorEq, jA, jF, jJ, Ya]; try simp only [fo]
   (repeat (first | refine aSeq fun X hX => ?_ | apply aBlk | refine aSkip ?_ | (first | refine aExit ?_ | refine aRet ?_); try simp only [slx, ↓reduceIte, jA, reduceCtorEq] | (first | apply aReg | apply aIf); simp -implicitDefEqProofs only [↓slp, ↓reduceIte, reduceCtorEq, jA, jF, jJ, Ya]; try simp only [fo] | apply hX; clear hX X | clear hX X; apply hX; clear hX X | intro hlen; unfold maxLen at hlen | apply And.intro; · first | assumption | and_intros <;> first | omega | assumption))
   refine callMS (hA (.inl hk) ha _) (by simp only [List.map_cons, List.map_nil, PV.settle, PV.settles]) ?_
   rintro v mc ⟨out, rfl, hpo, hmc⟩
   subst hmc
   simp -implicitDefEqProofs only [↓slp, ↓reduceIte, reduceCtorEq, jA, jF, jJ, Ya]; try simp only [fo]
   (repeat (first | refine aSeq fun X hX => ?_ | apply aBlk | refine aSkip ?_ | (first | refine aExit ?_ | refine aRet ?_); try simp only [slx, ↓reduceIte, jA, reduceCtorEq] | (first | apply aReg | apply aIf); simp -implicitDefEqProofs only [↓slp, ↓reduceIte, reduceCtorEq, jA, jF, jJ, Ya]; try simp only [fo] | apply hX; clear hX X | clear hX X; apply hX; clear hX X | intro hlen; unfold maxLen at hlen | apply And.intro; · first | assumption | and_intros <;> first | omega | assumption))
   simp only [aPost, Tryd.results76, aRes_n, aRes_t, aRes_c, pack_one, pack_two]
   exact leave_same rfl ⟨out, rfl, hpo, .inr hl, rfl⟩
  ·
   have c1 : (q.kind == 1) = false := by simp [hk]
   have c2 : (q.kind == 2) = false := by simp [hk]
   have c5 : (q.kind == 5) = false := by simp [hk]
   have c3 : (q.kind == 3) = false := by simp [hk]
   refine ACalls.enter (mu := []) ok_mix Tryd.func76 rfl (by kernel_rfl) (by kernel_rfl) (by simp only [List.length_cons, List.length_nil, Tryd.ntmps76]; omega) ?_
   (repeat (first | refine aSeq fun X hX => ?_ | apply aBlk | refine aSkip ?_ | (first | refine aExit ?_ | refine aRet ?_); try simp only [slx, ↓reduceIte, jA, reduceCtorEq] | (first | apply aReg | apply aIf); simp -implicitDefEqProofs only [↓slp, ↓reduceIte, reduceCtorEq, jA, jF, jJ, Ya, c1, c2, c5, c3]; try simp only [fo] | apply hX; clear hX X | clear hX X; apply hX; clear hX X | intro hlen; unfold maxLen at hlen | apply And.intro; · first | assumption | and_intros <;> first | omega | assumption))
   refine callMS (hA (.inr ⟨hk, hnd⟩) ha _) (by simp only [List.map_cons, List.map_nil, PV.settle, PV.settles]) ?_
   rintro v mc ⟨out, rfl, hpo, hmc⟩
   subst hmc
   simp -implicitDefEqProofs only [↓slp, ↓reduceIte, reduceCtorEq, jA, jF, jJ, Ya]; try simp only [fo]
   (repeat (first | refine aSeq fun X hX => ?_ | apply aBlk | refine aSkip ?_ | (first | refine aExit ?_ | refine aRet ?_); try simp only [slx, ↓reduceIte, jA, reduceCtorEq] | (first | apply aReg | apply aIf); simp -implicitDefEqProofs only [↓slp, ↓reduceIte, reduceCtorEq, jA, jF, jJ, Ya]; try simp only [fo] | apply hX; clear hX X | clear hX X; apply hX; clear hX X | intro hlen; unfold maxLen at hlen | apply And.intro; · first | assumption | and_intros <;> first | omega | assumption))
   simp only [aPost, Tryd.results76, aRes_n, aRes_t, aRes_c, pack_one, pack_two]
   exact leave_same rfl ⟨out, rfl, hpo, .inr hl, rfl⟩
end Go.Proofs.YteiaedmipkcfeaaDoor
