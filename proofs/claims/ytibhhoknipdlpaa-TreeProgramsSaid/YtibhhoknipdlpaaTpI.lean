/-
 The nodes that a block calls: both ways.
-/
-- halved
import Derived.Test.YtibhhoknipdlpaaTpG
import Derived.Test.YtibhhoknipdlpaaHH
set_option linter.unusedVariables false
set_option linter.unusedSimpArgs false
namespace Go.Proofs.Ytibhhoknipdlpaa
open Nat renaming reduceEqDiff → jA, reduceAdd → jB, reduceMul → jC, reduceLT → jD, reduceLeDiff → jE, reduceBEq → jF, reduceBNe → jG
open Int renaming reduceLE → jH, reduceLT → jI, reduceToNat → jJ, reduceEq → jK
open Go
-- EXX: Qu.settle_pv, Qu.pure_pv, Qu.cells_pv, Qu.cs, Am.settle_pv, Am.pure_pv, Am.cells_pv, Am.cs, Tr.settle_pv, Tr.pure_pv, Tr.cells_pv, Tr.cs
set_option maxRecDepth 20000
-- TNAMES: int; uint8; int32; string; bool; []string; []api.Expr; api.Expr; api.Pos; api.Type; api.On; []api.On; api.Var; []api.Var; api.Equation; []api.Equation; api.Block; api.Trans; []api.Trans; api.Arm; []api.Arm


def callsA (cf : List Qu → List Str) (l : List Str) (ar : List Am) : List Str := ar.foldl (fun l a => addL l (cf a.eqs)) l
def callsQ (cf : List Qu → List Str) (l : List Str) (q : Qu) : List Str := callsA cf (if q.kind = 2 then addS l q.name else l) q.arms
def callsF : Nat → List Qu → List Str
 | 0, Q => Q.foldl (callsQ (fun _ => [])) []
 | d + 1, Q => Q.foldl (callsQ (callsF d)) []
theorem callsA_take {cf : List Qu → List Str} {l : List Str} {r : List Am} {j : Nat} (h : j < r.length) : callsA cf l (r.take (j + 1)) = addL (callsA cf l (r.take j)) (cf r[j].eqs) := by
 unfold callsA; rw [List.take_succ_eq_append_getElem h, List.foldl_append]; rfl
theorem callsQ_take {cf : List Qu → List Str} {l : List Str} {r : List Qu} {j : Nat} (h : j < r.length) : (r.take (j + 1)).foldl (callsQ cf) l = callsQ cf ((r.take j).foldl (callsQ cf) l) r[j] := by
 rw [List.take_succ_eq_append_getElem h, List.foldl_append]; rfl
theorem callsA_len {cf : List Qu → List Str} {wb : WbT} : ∀ (ar : List Am) (l : List Str), (∀ a ∈ ar, (cf a.eqs).length ≤ wb a.vars a.eqs) → (callsA cf l ar).length ≤ l.length + (ar.map (wtA wb)).sum
 | [], l, _ => Nat.le_refl _
 | a :: r, l, h => by
  have h1 := callsA_len r (addL l (cf a.eqs)) (fun x hx => h x (List.mem_cons_of_mem _ hx))
  have h2 := addL_len (cf a.eqs) l
  have h3 := h a (List.mem_cons_self ..)
  show (callsA cf (addL l (cf a.eqs)) r).length ≤ _
  rw [List.map_cons, List.sum_cons]
  have : wb a.vars a.eqs ≤ wtA wb a := by unfold wtA; omega
  omega
theorem callsQ_len {cf : List Qu → List Str} {wb : WbT} (q : Qu) (l : List Str) (h : ∀ a ∈ q.arms, (cf a.eqs).length ≤ wb a.vars a.eqs) : (callsQ cf l q).length ≤ l.length + wtQ wb q := by
 have h1 := callsA_len (wb := wb) q.arms (if q.kind = 2 then addS l q.name else l) h
 have h2 : (if q.kind = 2 then addS l q.name else l).length ≤ l.length + 1 := by
  split
  ·exact addS_lenT _ _
  ·omega
 unfold callsQ wtQ; omega
theorem callsL_len {cf : List Qu → List Str} {wb : WbT} : ∀ (Q : List Qu) (l : List Str), (∀ q ∈ Q, ∀ a ∈ q.arms, (cf a.eqs).length ≤ wb a.vars a.eqs) → (Q.foldl (callsQ cf) l).length ≤ l.length + (Q.map (wtQ wb)).sum
 | [], l, _ => Nat.le_refl _
 | q :: r, l, h => by
  have h1 := callsL_len r (callsQ cf l q) (fun x hx => h x (List.mem_cons_of_mem _ hx))
  have h2 := callsQ_len (wb := wb) q l (h q (List.mem_cons_self ..))
  rw [List.foldl_cons, List.map_cons, List.sum_cons]
  omega
theorem callsB_len {cf : List Qu → List Str} {wb : WbT} (V : List Va) (Q : List Qu) (h : ∀ q ∈ Q, ∀ a ∈ q.arms, (cf a.eqs).length ≤ wb a.vars a.eqs) : (Q.foldl (callsQ cf) []).length ≤ wtB wb V Q := by
 have := callsL_len (wb := wb) Q [] h
 unfold wtB; rw [List.length_nil] at this; omega
theorem callsK_len {cf : List Qu → List Str} {wb : WbT} (V : List Va) (Q : List Qu) (k : Nat) (hk : k < Q.length) (h : ∀ q ∈ Q, ∀ a ∈ q.arms, (cf a.eqs).length ≤ wb a.vars a.eqs) : ((Q.take k).foldl (callsQ cf) []).length + wtQ wb Q[k] ≤ wtB wb V Q := by
 have h1 := callsL_len (wb := wb) (Q.take k) [] (fun q hq => h q (List.mem_of_mem_take hq))
 have h2 := sum_takeS (wtQ wb) Q k hk
 unfold wtB; rw [List.length_nil] at h1; omega
def CaC (cf : List Qu → List Str) (wb : WbT) (V : List Va) (Q : List Qu) : Prop := (cf Q).length ≤ wb V Q ∧ ∀ m : M, ACalls Try.prog 43 [.ag [.sl .no (V.map Va.pv), .sl .no (Q.map Qu.pv)]] m (fun v m' => v = .sl .no ((cf Q).map pS) ∧ m' = m)
theorem addL_addS (l : List Str) (m : List Str) (s : Str) : addL l (addS m s) = addS (addL l m) s := by
 unfold addS
 cases c : hasS m s with
 | true =>
  rw [if_pos rfl]
  have hm := (hasS_iff s m).1 c
  have hin : ∀ (m l : List Str), s ∈ l ∨ s ∈ m → s ∈ addL l m := by
   intro m
   induction m with
   | nil => intro l h; rcases h with h | h; exact h; cases h
   | cons x m ih =>
    intro l h
    show s ∈ addL (addS l x) m
    refine ih _ ?_
    have hs : s ∈ l ∨ s = x → s ∈ addS l x := by
     intro h
     unfold addS
     split
     ·rename_i hx
      rcases h with h | rfl
      ·exact h
      ·exact (hasS_iff _ _).1 hx
     ·rcases h with h | rfl
      ·exact List.mem_append_left _ h
      ·exact List.mem_append_right _ (List.mem_singleton_self _)
    rcases h with h | h
    ·exact .inl (hs (.inl h))
    ·rcases List.mem_cons.1 h with h | h
     ·exact .inl (hs (.inr h))
     ·exact .inr h
  rw [if_pos ((hasS_iff s _).2 (hin m l (.inr hm)))]
 | false =>
  rw [if_neg Bool.false_ne_true]
  unfold addL
  rw [List.foldl_append]
  rfl
theorem addL_addL (l : List Str) : ∀ (r m : List Str), addL (addL l m) r = addL l (addL m r)
 | [], m => rfl
 | s :: r, m => by
  show addL (addS (addL l m) s) r = addL l (addL (addS m s) r)
  rw [← addL_addS, addL_addL l r]
set_option maxHeartbeats 4000000 in
theorem calls_step {cf : List Qu → List Str} {wb : WbT} (V : List Va) (Q : List Qu) (hw : wtB wb V Q ≤ 2 ^ 30) (hA : ∀ q ∈ Q, ∀ a ∈ q.arms, CaC cf wb a.vars a.eqs) :
    CaC (fun Q => Q.foldl (callsQ cf) []) (wtB wb) V Q := by
 have hO : ∀ k (h : k < Q.length), ((Q.take k).foldl (callsQ cf) []).length + wtQ wb Q[k] ≤ wtB wb V Q := fun k h => callsK_len V Q k h (fun q hq a ha => (hA q hq a ha).1)
 refine ⟨callsB_len V Q (fun q hq a ha => (hA q hq a ha).1), fun m => ?_⟩
 refine ACalls.enter (mu := []) ok_mix Try.func43 rfl (by kernel_rfl) (by kernel_rfl) (by simp only [List.length_cons, List.length_nil, Try.ntmps43]; omega) ?_
 (repeat (first | refine aSeq fun X hX => ?_ | refine aBlk ?_ | refine aReg ?_; simp -implicitDefEqProofs only [↓slp, ↓reduceIte, reduceCtorEq, jA, jB, jE, Ym] | apply hX; clear hX X | intro hlen; unfold maxLen at hlen))
 obtain ⟨I, hI⟩ : ∃ I : F → M → Prop, ∀ f m', I f m' = (∃ (k : Nat) (o : Own), k ≤ Q.length ∧ f 3 = .sl o (((Q.take k).foldl (callsQ cf) []).map pS) ∧ f 11 = .sl .no (Q.map Qu.pv) ∧ f 12 = pI Q.length ∧ f 13 = pI k ∧ Toks m m' ∧ Mine m m' o 1) := ⟨_, fun _ _ => rfl⟩
 refine aLoop I (fun f m => Q.length - numOf (f 13)) ?_ ?_
 ·rw [hI]; exact ⟨0, .full, by omega, rfl, rfl, rfl, rfl, .refl _, .full⟩
 intro f m' hrel
 rw [hI] at hrel
 obtain ⟨k, o, hk, f3, f11, f12, f13, htk, hmi⟩ := hrel
 cases c1 : decide ((k : Int) < (Q.length : Int)) with
 | false =>
  have hkk : k = Q.length := by simp at c1; omega
  subst hkk
  rw [List.take_length] at f3
  (repeat (first | refine aSeq fun X hX => ?_ | (first | refine aExit ?_ | refine aRet ?_); try simp only [slx, ↓reduceIte, jA, reduceCtorEq] | (first | apply aReg | apply aIf); simp -implicitDefEqProofs only [↓slp, slb, ↓reduceIte, jA, f3, f12, f13, pI, c1] | apply hX; clear hX X | clear hX X; apply hX; clear hX X))
  simp only [aPost, Try.results43, aRes_n, aRes_t, aRes_c, pack_one, pack_two]
  simp -implicitDefEqProofs only [slb, ↓reduceIte]
  exact leave_toks0 htk rfl ⟨rfl, rfl⟩
 | true =>
  have hlt : k < Q.length := by simpa using c1
  have g0 := getD_map Qu.pv Q k hlt
  have hi : IntKind.i64.wrap ((k : Int) + 1) = ((k + 1 : Nat) : Int) := by rw [wrap64 (by omega)]; omega
  have hme : numOf (f 13) = k := by rw [f13]; exact Int.toNat_natCast k
  have hq := hA Q[k] (List.getElem_mem hlt)
  have hnx := callsQ_take (cf := cf) (l := []) hlt
  have hOk := hO k hlt
  clear hO hA
  generalize hLk : (Q.take k).foldl (callsQ cf) [] = L at *
  generalize Q[k] = q at *
  obtain ⟨L1, hL1⟩ : ∃ L1, (if q.kind = 2 then addS L q.name else L) = L1 := ⟨_, rfl⟩
  have hO1 : L1.length ≤ L.length + 1 := by
   rw [← hL1]
   split
   ·exact addS_lenT _ _
   ·omega
  have hOj : ∀ j, (callsA cf L1 (q.arms.take j)).length ≤ 2 ^ 30 := fun j => by
   have h1 := callsA_len (wb := wb) (q.arms.take j) L1 (fun a ha => (hq a (List.mem_of_mem_take ha)).1)
   have h2 := sum_take (wtA wb) q.arms j
   unfold wtQ at hOk
   omega
  have hfin : callsA cf L1 q.arms = callsQ cf L q := by unfold callsQ; rw [hL1]
  have hLn : L.length ≤ 2 ^ 30 := by omega
  obtain ⟨J, hJ⟩ : ∃ J : F → M → Prop, ∀ f m', J f m' = (∃ (j : Nat) (o : Own), j ≤ q.arms.length ∧ f 3 = .sl o ((callsA cf L1 (q.arms.take j)).map pS) ∧ f 11 = .sl .no (Q.map Qu.pv) ∧ f 12 = pI Q.length ∧ f 13 = pI k ∧ f 25 = .sl .no (q.arms.map Am.pv) ∧ f 26 = pI q.arms.length ∧ f 27 = pI j ∧ Toks m m' ∧ Mine m m' o 1) := ⟨_, fun _ _ => rfl⟩
  (repeat (first | refine aSeq fun X hX => ?_ | refine aSkip ?_ | (first | apply aReg | apply aIf); simp -implicitDefEqProofs only [↓slp, ↓reduceIte, reduceCtorEq, jA, jB, jE, jF, Ym, f11, f12, f13, pI, c1, g0] | apply hX; clear hX X | apply And.intro; focus omega))
  have join : ∀ (f : F) (m' : M) (o : Own), f 3 = .sl o (L1.map pS) → f 5 = .ep q.cs → f 11 = .sl .no (Q.map Qu.pv) → f 12 = pI Q.length → f 13 = pI k → Toks m m' → Mine m m' o 1 → X f m' := by
   clear f3 f11 f12 f13 htk hmi
   intro f m' o f3 f5 f11 f12 f13 htk hmi
   refine hX _ _ ?_
   clear hX X
   (repeat (first | refine aSeq fun X hX => ?_ | refine aBlk ?_ | refine aReg ?_; simp -implicitDefEqProofs only [↓slp, ↓reduceIte, reduceCtorEq, jB, jE, Ym, f5] | apply hX; clear hX X | intro hlen; unfold maxLen at hlen))
   refine aLoop J (fun f m => q.arms.length - numOf (f 27)) ?_ ?_
   ·rw [hJ]
    exact ⟨0, o, by omega, f3, f11, f12, f13, rfl, rfl, rfl, htk, hmi⟩
   clear f3 f5 f11 f12 f13 htk hmi
   intro f m' hrel
   rw [hJ] at hrel
   obtain ⟨j, o, hj, f3, f11, f12, f13, f25, f26, f27, htk, hmi⟩ := hrel
   cases c3 : decide ((j : Int) < (q.arms.length : Int)) with
   | false =>
    have hjj : j = q.arms.length := by simp at c3; omega
    subst hjj
    rw [List.take_length, hfin] at f3
    (repeat (first | refine aSeq fun X hX => ?_ | refine aExit ?_; try simp only [slx, ↓reduceIte, jA, reduceCtorEq] | (first | apply aReg | apply aIf); simp -implicitDefEqProofs only [↓slp, slb, ↓reduceIte, jA, f13, hi, f26, f27, pI, c3] | apply hX; clear hX X | clear hX X; apply hX; clear hX X))
    rw [hI]
    exact ⟨⟨k + 1, o, hlt, by rw [hnx]; exact f3, f11, f12, rfl, htk, hmi⟩, by omega⟩
   | true =>
    have hltj : j < q.arms.length := by simpa using c3
    have gj := getD_map Am.pv q.arms j hltj
    have hij : IntKind.i64.wrap ((j : Int) + 1) = ((j + 1 : Nat) : Int) := by rw [wrap64 (by omega)]; omega
    have hmej : numOf (f 27) = j := by rw [f27]; exact Int.toNat_natCast j
    have ha := hq q.arms[j] (List.getElem_mem hltj)
    have hwa := wt_blk (wb := wb) (List.getElem_mem hltj)
    have hnj := callsA_take (cf := cf) (l := L1) hltj
    have hOjj := hOj j
    generalize hAj : callsA cf L1 (q.arms.take j) = A at *
    generalize q.arms[j] = a at *
    have hac := ha.2
    have hal := ha.1
    generalize hR : cf a.eqs = R at *
    have hOr : ∀ i, (addL A (R.take i)).length ≤ 2 ^ 32 := fun i => by
     have h1 := addL_len (R.take i) A
     have h2 : (R.take i).length ≤ R.length := by rw [List.length_take]; omega
     omega
    (repeat (first | refine aSeq fun X hX => ?_ | refine aSkip ?_ | (first | apply aReg | apply aIf); simp -implicitDefEqProofs only [↓slp, ↓reduceIte, reduceCtorEq, jA, jB, jE, jF, Ym, f25, f26, f27, pI, c3, gj] | apply hX; clear hX X | apply And.intro; focus omega))
    refine callE (hac m') ?_
    simp -implicitDefEqProofs only [↓slp, ↓reduceIte, Ym]
    (repeat (first | refine aBlk ?_ | apply hX; clear hX X | intro hlen; unfold maxLen at hlen))
    obtain ⟨J2, hJ2⟩ : ∃ J2 : F → M → Prop, ∀ f m', J2 f m' = (∃ (i : Nat) (o : Own), i ≤ R.length ∧ f 3 = .sl o ((addL A (R.take i)).map pS) ∧ f 11 = .sl .no (Q.map Qu.pv) ∧ f 12 = pI Q.length ∧ f 13 = pI k ∧ f 25 = .sl .no (q.arms.map Am.pv) ∧ f 26 = pI q.arms.length ∧ f 27 = pI j ∧ f 33 = .sl .no (R.map pS) ∧ f 34 = pI R.length ∧ f 35 = pI i ∧ Toks m m' ∧ Mine m m' o 1) := ⟨_, fun _ _ => rfl⟩
    refine aLoop J2 (fun f m => R.length - numOf (f 35)) ?_ ?_
    ·rw [hJ2]; exact ⟨0, o, by omega, f3, f11, f12, f13, f25, f26, f27, rfl, rfl, rfl, htk, hmi⟩
    clear f3 f11 f12 f13 f25 f26 f27 htk hmi
    intro f m' hrel
    rw [hJ2] at hrel
    obtain ⟨i, o, hil, f3, f11, f12, f13, f25, f26, f27, f33, f34, f35, htk, hmi⟩ := hrel
    cases c4 : decide ((i : Int) < (R.length : Int)) with
    | true =>
     have hlti : i < R.length := by simpa using c4
     have gi := getD_map pS R i hlti
     have hii : IntKind.i64.wrap ((i : Int) + 1) = ((i + 1 : Nat) : Int) := by rw [wrap64 (by omega)]; omega
     have hmei : numOf (f 35) = i := by rw [f35]; exact Int.toNat_natCast i
     have hlen := hOr i
     (repeat (first | refine aSeq fun X hX => ?_ | refine aSkip ?_ | (first | apply aReg | apply aIf); simp -implicitDefEqProofs only [↓slp, ↓reduceIte, reduceCtorEq, jA, jB, Ym, f3, f33, f34, f35, pI, pS, c4, gi] | apply hX; clear hX X | apply And.intro; focus omega))
     refine callM (add_any o (addL A (R.take i)) R[i] m' hmi.free (by omega)) ?_
     rintro v mc ⟨rfl, rfl⟩
     simp -implicitDefEqProofs only [↓slp, slb, ↓reduceIte]
     (repeat (first | refine aReg ?_; simp -implicitDefEqProofs only [↓slp, slb, ↓reduceIte, jA, f35, pI, hii] | apply hX; clear hX X))
     rw [hJ2]
     exact ⟨⟨i + 1, .tok m'.nt, hlti, by rw [addL_take hlti]; rfl, f11, f12, f13, f25, f26, f27, f33, f34, rfl, htk.use hmi, Mine.new htk o 1⟩, by omega⟩
    | false =>
     have hjj : i = R.length := by simp at c4; omega
     subst hjj
     rw [List.take_length] at f3
     (repeat (first | refine aSeq fun X hX => ?_ | refine aExit ?_; try simp only [slx, ↓reduceIte, jA, reduceCtorEq] | (first | apply aReg | apply aIf); simp -implicitDefEqProofs only [↓slp, slb, ↓reduceIte, jA, f27, hij, f34, f35, pI, c4] | apply hX; clear hX X | clear hX X; apply hX; clear hX X))
     rw [hJ]
     exact ⟨⟨j + 1, o, hltj, by rw [hnj]; exact f3, f11, f12, f13, f25, f26, rfl, htk, hmi⟩, by omega⟩
  cases c2 : (q.kind == 2) with
  | true =>
   have hk2 : q.kind = 2 := by simpa using c2
   rw [if_pos hk2] at hL1
   simp -implicitDefEqProofs only [slb, reduceCtorEq]
   (repeat (refine aReg ?_; simp -implicitDefEqProofs only [↓slp, ↓reduceIte, reduceCtorEq, jA, jB, jE, Ym, f3]))
   refine callM (add_any o L q.name m' hmi.free (by omega)) ?_
   rintro v mc ⟨rfl, rfl⟩
   simp -implicitDefEqProofs only [↓slp, slb, ↓reduceIte]
   (repeat (first | refine aSeq fun X hX => ?_ | apply aBlk | refine aSkip ?_ | (first | refine aExit ?_ | refine aRet ?_); try simp only [slx, ↓reduceIte, jA, reduceCtorEq] | (first | apply aReg | apply aIf); simp -implicitDefEqProofs only [forall_eq, ↓slp, ↓reduceIte, reduceCtorEq, jA, jB, jC, jD, jE, jF, jG, jH, jI, jJ, jK, Ym]; try simp only [fo] | apply hX; clear hX X | clear hX X; apply hX; clear hX X | clear hX X; clear hX X; apply hX; clear hX X | intro hlen; unfold maxLen at hlen | apply And.intro; · first | assumption | and_intros <;> first | omega | assumption))
   exact join _ _ _ (by rw [← hL1]; rfl) rfl f11 f12 f13 (htk.use hmi) (Mine.new htk o 1)
  | false =>
   have hk2 : q.kind ≠ 2 := by simpa using c2
   rw [if_neg hk2] at hL1
   subst hL1
   simp -implicitDefEqProofs only [slb]
   (repeat refine aSkip ?_)
   exact join _ _ _ f3 rfl f11 f12 f13 htk hmi
theorem calls_any : ∀ (d : Nat) (V : List Va) (Q : List Qu), DpB d Q → wtF d V Q ≤ 2 ^ 30 → CaC (callsF d) (wtF d) V Q
 | 0, V, Q, h, hw => calls_step (cf := fun _ => []) (wb := fun _ _ => 0) V Q hw (fun q hq a ha => by rw [h q hq] at ha; cases ha)
 | d + 1, V, Q, h, hw => calls_step (cf := callsF d) (wb := wtF d) V Q hw (fun q hq a ha => calls_any d a.vars a.eqs (h q hq a ha) (Nat.le_trans (wt_blk ha) (Nat.le_trans (wt_eq hq) hw)))
set_option maxHeartbeats 4000000 in
theorem rcalls_step {cf : List Qu → List Str} {wb : WbT} (V : List Va) (Q : List Qu) (hA : ∀ q ∈ Q, ∀ a ∈ q.arms, (cf a.eqs).length ≤ wb a.vars a.eqs ∧ ∀ (l : List Str), l.length + wb a.vars a.eqs ≤ 2 ^ 32 → ∀ m : M, ACalls Try.prog 44 [.sl .no (l.map pS), .ag [.sl .no (a.vars.map Va.pv), .sl .no (a.eqs.map Qu.pv)]] m (fun v m' => v = .sl .no ((addL l (cf a.eqs)).map pS) ∧ m' = m)) (l : List Str) (hl : l.length + wtB wb V Q ≤ 2 ^ 32) (m : M) :
    ACalls Try.prog 44 [.sl .no (l.map pS), .ag [.sl .no (V.map Va.pv), .sl .no (Q.map Qu.pv)]] m (fun v m' => v = .sl .no ((addL l (Q.foldl (callsQ cf) [])).map pS) ∧ m' = m) := by
 have hO : ∀ k (h : k < Q.length), ((Q.take k).foldl (callsQ cf) []).length + wtQ wb Q[k] ≤ wtB wb V Q := fun k h => callsK_len V Q k h (fun q hq a ha => (hA q hq a ha).1)
 have hQl := wt_eqs wb V Q
 refine ACalls.enter (mu := []) ok_mix Try.func44 rfl (by kernel_rfl) (by kernel_rfl) (by simp only [List.length_cons, List.length_nil, Try.ntmps44]; omega) ?_
 (repeat (first | refine aSeq fun X hX => ?_ | refine aBlk ?_ | refine aReg ?_; simp -implicitDefEqProofs only [↓slp, ↓reduceIte, Ym] | apply hX; clear hX X))
 obtain ⟨I, hI⟩ : ∃ I : F → M → Prop, ∀ f m', I f m' = (∃ (k : Nat), k ≤ Q.length ∧ f 0 = .sl .no ((addL l ((Q.take k).foldl (callsQ cf) [])).map pS) ∧ f 3 = .ep [.sl .no (V.map Va.pv), .sl .no (Q.map Qu.pv)] ∧ f 5 = pI k ∧ m = m') := ⟨_, fun _ _ => rfl⟩
 refine aLoop I (fun f m => Q.length - numOf (f 5)) ?_ ?_
 ·rw [hI]; exact ⟨0, by omega, rfl, rfl, rfl, rfl⟩
 intro f m' hrel
 rw [hI] at hrel
 obtain ⟨k, hk, f0, f3, f5, rfl⟩ := hrel
 cases c1 : decide ((k : Int) < (Q.length : Int)) with
 | false =>
  have hkk : k = Q.length := by simp at c1; omega
  subst hkk
  rw [List.take_length] at f0
  (repeat (first | refine aSeq fun X hX => ?_ | (first | refine aExit ?_ | refine aRet ?_); try simp only [slx, ↓reduceIte, jA, reduceCtorEq] | (first | apply aReg | apply aIf); simp -implicitDefEqProofs only [↓slp, ↓reduceIte, reduceCtorEq, jA, jB, jE, Ym, f0, f3, f5, pI, c1] | apply hX; clear hX X | clear hX X; apply hX; clear hX X | intro hlen; unfold maxLen at hlen))
  simp only [aPost, Try.results44, aRes_n, aRes_t, aRes_c, pack_one, pack_two]
  simp -implicitDefEqProofs only [slb, ↓reduceIte]
  exact leave_same rfl ⟨rfl, rfl⟩
 | true =>
  have hlt : k < Q.length := by simpa using c1
  have g0 := getD_map Qu.pv Q k hlt
  have hi : IntKind.i64.wrap ((k : Int) + 1) = ((k + 1 : Nat) : Int) := by rw [wrap64 (by omega)]; omega
  have hme : numOf (f 5) = k := by rw [f5]; exact Int.toNat_natCast k
  have hq := hA Q[k] (List.getElem_mem hlt)
  have hnx := callsQ_take (cf := cf) (l := []) hlt
  have hOk := hO k hlt
  clear hO hA
  generalize hLk : (Q.take k).foldl (callsQ cf) [] = L at *
  generalize hqk : Q[k] = q at *
  have hal := wt_arms wb q
  obtain ⟨L1, hL1⟩ : ∃ L1, (if q.kind = 2 then addS L q.name else L) = L1 := ⟨_, rfl⟩
  have hO1 : L1.length ≤ L.length + 1 := by
   rw [← hL1]
   split
   ·exact addS_lenT _ _
   ·omega
  have hOj : ∀ j (h : j < q.arms.length), (callsA cf L1 (q.arms.take j)).length + wtA wb q.arms[j] ≤ wtB wb V Q := fun j h => by
   have h1 := callsA_len (wb := wb) (q.arms.take j) L1 (fun a ha => (hq a (List.mem_of_mem_take ha)).1)
   have h2 := sum_takeS (wtA wb) q.arms j h
   unfold wtQ at hOk
   omega
  have hfin : callsA cf L1 q.arms = callsQ cf L q := by unfold callsQ; rw [hL1]
  have hLn := addL_len L l
  obtain ⟨J, hJ⟩ : ∃ J : F → M → Prop, ∀ f m', J f m' = (∃ (j : Nat), j ≤ q.arms.length ∧ f 0 = .sl .no ((addL l (callsA cf L1 (q.arms.take j))).map pS) ∧ f 3 = .ep [.sl .no (V.map Va.pv), .sl .no (Q.map Qu.pv)] ∧ f 5 = pI k ∧ f 6 = pI j ∧ m = m') := ⟨_, fun _ _ => rfl⟩
  (repeat (first | refine aSeq fun X hX => ?_ | refine aSkip ?_ | (first | apply aReg | apply aIf); simp -implicitDefEqProofs only [↓slp, ↓reduceIte, reduceCtorEq, jA, jB, jE, Ym, f3, f5, pI, c1, g0] | apply hX; clear hX X | intro hlen; unfold maxLen at hlen | apply And.intro; focus omega))
  have join : ∀ (f : F) (m' : M), f 0 = .sl .no ((addL l L1).map pS) → f 3 = .ep [.sl .no (V.map Va.pv), .sl .no (Q.map Qu.pv)] → f 5 = pI k → m = m' → X f m' := by
   clear f0 f3 f5
   rintro f m' f0 f3 f5 rfl
   refine hX _ _ ?_
   clear hX X
   (repeat (first | refine aSeq fun X hX => ?_ | refine aBlk ?_ | refine aReg ?_; simp -implicitDefEqProofs only [↓slp, slb] | apply hX; clear hX X))
   refine aLoop J (fun f m => q.arms.length - numOf (f 6)) ?_ ?_
   ·rw [hJ]
    exact ⟨0, by omega, f0, f3, f5, rfl, rfl⟩
   clear f0 f3 f5
   intro f m' hrel
   rw [hJ] at hrel
   obtain ⟨j, hj, f0, f3, f5, f6, rfl⟩ := hrel
   cases c3 : decide ((j : Int) < (q.arms.length : Int)) with
   | false =>
    have hjj : j = q.arms.length := by simp at c3; omega
    subst hjj
    rw [List.take_length, hfin] at f0
    (repeat (first | refine aSeq fun X hX => ?_ | refine aExit ?_; try simp only [slx, ↓reduceIte, jA, reduceCtorEq] | (first | apply aReg | apply aIf); simp -implicitDefEqProofs only [↓slp, ↓reduceIte, reduceCtorEq, jA, jB, jE, Ym, f3, f5, hi, f6, pI, c3, g0] | apply hX; clear hX X | clear hX X; apply hX; clear hX X | intro hlen; unfold maxLen at hlen | apply And.intro; focus omega))
    rw [hI]
    exact ⟨⟨k + 1, hlt, by rw [hnx]; exact f0, f3, rfl, rfl⟩, by omega⟩
   | true =>
    have hltj : j < q.arms.length := by simpa using c3
    have gj := getD_map Am.pv q.arms j hltj
    have hij : IntKind.i64.wrap ((j : Int) + 1) = ((j + 1 : Nat) : Int) := by rw [wrap64 (by omega)]; omega
    have hmej : numOf (f 6) = j := by rw [f6]; exact Int.toNat_natCast j
    have ha := hq q.arms[j] (List.getElem_mem hltj)
    have hnj := callsA_take (cf := cf) (l := L1) hltj
    have hOjj := hOj j hltj
    generalize hAj : callsA cf L1 (q.arms.take j) = A at *
    generalize q.arms[j] = a at *
    have hac := ha.2 (addL l A) (by have := addL_len A l; unfold wtA at hOjj; omega)
    rw [addL_addL] at hac
    (repeat (first | refine aSeq fun X hX => ?_ | refine aBlk ?_ | refine aSkip ?_ | (first | apply aReg | apply aIf); simp -implicitDefEqProofs only [↓slp, ↓reduceIte, reduceCtorEq, jA, jB, jE, Ym, f0, f3, f5, f6, pI, c3, g0, gj] | apply hX; clear hX X | intro hlen; unfold maxLen at hlen | apply And.intro; focus omega))
    refine callE (hac m) ?_
    simp -implicitDefEqProofs only [↓slp, slb, ↓reduceIte]
    (repeat (first | refine aReg ?_; simp -implicitDefEqProofs only [↓slp, slb, ↓reduceIte, reduceCtorEq, jA, f6, pI, hij] | apply hX; clear hX X))
    rw [hJ]
    exact ⟨⟨j + 1, hltj, by rw [hnj]; rfl, f3, f5, rfl, rfl⟩, by omega⟩
  cases c2 : (q.kind == 2) with
  | true =>
   have hk2 : q.kind = 2 := by simpa using c2
   rw [if_pos hk2] at hL1
   simp -implicitDefEqProofs only [slb, reduceCtorEq]
   (repeat (first | refine aReg ?_; simp -implicitDefEqProofs only [↓slp, ↓reduceIte, reduceCtorEq, jA, jB, jE, Ym, f0, f3, f5, pI, g0] | apply And.intro; focus omega))
   refine callE (rAdd_any (addL l L) q.name m (by omega)) ?_
   simp -implicitDefEqProofs only [↓slp, slb, ↓reduceIte]
   (repeat (first | refine aSeq fun X hX => ?_ | apply aBlk | refine aSkip ?_ | (first | refine aExit ?_ | refine aRet ?_); try simp only [slx, ↓reduceIte, jA, reduceCtorEq] | (first | apply aReg | apply aIf); simp -implicitDefEqProofs only [forall_eq, ↓slp, ↓reduceIte, reduceCtorEq, jA, jB, jC, jD, jE, jF, jG, jH, jI, jJ, jK, Ym]; try simp only [fo] | apply hX; clear hX X | clear hX X; apply hX; clear hX X | clear hX X; clear hX X; apply hX; clear hX X | intro hlen; unfold maxLen at hlen | apply And.intro; · first | assumption | and_intros <;> first | omega | assumption))
   exact join _ _ (by rw [← hL1, addL_addS]; rfl) f3 f5 rfl
  | false =>
   have hk2 : q.kind ≠ 2 := by simpa using c2
   rw [if_neg hk2] at hL1
   subst hL1
   simp -implicitDefEqProofs only [slb]
   (repeat refine aSkip ?_)
   exact join _ _ f0 f3 f5 rfl
theorem rcalls_any : ∀ (d : Nat) (V : List Va) (Q : List Qu), DpB d Q → wtF d V Q ≤ 2 ^ 30 → ∀ (l : List Str), l.length + wtF d V Q ≤ 2 ^ 32 → ∀ m : M, ACalls Try.prog 44 [.sl .no (l.map pS), .ag [.sl .no (V.map Va.pv), .sl .no (Q.map Qu.pv)]] m (fun v m' => v = .sl .no ((addL l (callsF d Q)).map pS) ∧ m' = m)
 | 0, V, Q, h, hw => rcalls_step (cf := fun _ => []) (wb := fun _ _ => 0) V Q (fun q hq a ha => by rw [h q hq] at ha; cases ha)
 | d + 1, V, Q, h, hw => rcalls_step (cf := callsF d) (wb := wtF d) V Q (fun q hq a ha => ⟨(calls_any d a.vars a.eqs (h q hq a ha) (Nat.le_trans (wt_blk ha) (Nat.le_trans (wt_eq hq) hw))).1, rcalls_any d a.vars a.eqs (h q hq a ha) (Nat.le_trans (wt_blk ha) (Nat.le_trans (wt_eq hq) hw))⟩)
end Go.Proofs.Ytibhhoknipdlpaa
