/-
 Texts that belong together: NwK, NwJ, NwL.
-/
-- halved
import Derived.Test.YthhhnfjcaicjnaaGreatDoorAbMac
import Derived.Test.YthhhnfjcaicjnaaGreatDoorNvA
import Derived.Test.YthhhnfjcaicjnaaGreatDoorExA
import Derived.Test.YthhhnfjcaicjnaaGreatDoorNfA
import Derived.Test.YthhhnfjcaicjnaaGreatDoorLpA
import Derived.Test.YthhhnfjcaicjnaaGreatDoorTcA
set_option linter.unusedVariables false
set_option linter.unusedSimpArgs false
namespace Go.Proofs.YthhhnfjcaicjnaaGreatDoor
open Nat renaming reduceEqDiff → jA, reduceAdd → jB, reduceMul → jC, reduceLT → jD, reduceLeDiff → jE, reduceBEq → jF, reduceBNe → jG
open Int renaming reduceLE → jH, reduceLT → jI, reduceToNat → jJ, reduceEq → jK
open Go
set_option maxRecDepth 20000
set_option linter.defProp false
def tfNwK := And.intro @tfA (And.intro @Ex.settle_pv (And.intro @Ex.pure_pv (And.intro @Ex.cells_pv (And.intro @Ex.cs.eq_1 (And.intro @On.pv.eq_1 (And.intro @Ty.pv.eq_1 (And.intro @Va.settle_pv (And.intro @Va.pure_pv (And.intro @Va.cells_pv (And.intro @Va.cs.eq_1 (And.intro @Qu.settle_pv (And.intro @Qu.pure_pv (And.intro @Qu.cells_pv (And.intro @Qu.cs.eq_1 (And.intro @Am.settle_pv (And.intro @Am.pure_pv (And.intro @Am.cells_pv (And.intro @Am.cs.eq_1 (And.intro @Tr.settle_pv (And.intro @Tr.pure_pv (And.intro @Tr.cells_pv @Tr.cs.eq_1)))))))))))))))))))))

theorem nd_lenS : ∀ (l T : List Str), l.Nodup → (∀ s ∈ l, s ∈ T) → l.length ≤ T.length
 | [], T, _, _ => Nat.zero_le _
 | a :: l, T, h, hs => by
  rw [List.nodup_cons] at h
  have ha := hs a (List.mem_cons_self ..)
  obtain ⟨p, q, rfl⟩ := List.append_of_mem ha
  have := nd_lenS l (p ++ q) h.2 (fun s hsl => by
   have h1 := hs s (List.mem_cons_of_mem _ hsl)
   have hne : s ≠ a := fun e => h.1 (e ▸ hsl)
   simp only [List.mem_append, List.mem_cons] at h1 ⊢
   rcases h1 with h1 | h1 | h1
   ·exact .inl h1
   ·exact absurd h1 hne
   ·exact .inr h1)
  simp only [List.length_cons, List.length_append] at this ⊢
  omega
def Own1 (T l : List Str) : Prop := l.Nodup ∧ ∀ x ∈ l, x ∈ T
theorem Own1.nil (T : List Str) : Own1 T [] := ⟨List.nodup_nil, fun x h => by simp at h⟩
theorem Own1.add {T l : List Str} {s : Str} (h : Own1 T l) (hs : s ∈ T) : Own1 T (addS l s) := by
 obtain ⟨h2, h3⟩ := h
 unfold addS
 cases c : hasS l s with
 | true => rw [if_pos rfl]; exact ⟨h2, h3⟩
 | false =>
  rw [if_neg (by simp)]
  refine ⟨?_, fun x hx => ?_⟩
  ·rw [List.nodup_append]
   refine ⟨h2, by simp, fun a ha b hb => ?_⟩
   rw [List.mem_singleton] at hb
   subst hb
   rintro rfl
   rw [(hasS_iff a l).2 ha] at c
   cases c
  ·rcases List.mem_append.1 hx with hx | hx
   ·exact h3 x hx
   ·rw [List.mem_singleton] at hx; subst hx; exact hs
theorem Own1.len {T l : List Str} (h : Own1 T l) : l.length ≤ T.length := nd_lenS l T h.1 h.2
def addL (l r : List Str) : List Str := r.foldl addS l
theorem Own1.addL {T : List Str} : ∀ {r l : List Str}, Own1 T l → (∀ x ∈ r, x ∈ T) → Own1 T (addL l r)
 | [], l, h, _ => h
 | s :: r, l, h, hr => Own1.addL (r := r) (h.add (hr s (List.mem_cons_self ..))) (fun x hx => hr x (List.mem_cons_of_mem _ hx))
def callsA (cf : List Qu → List Str) (l : List Str) (ar : List Am) : List Str := ar.foldl (fun l a => addL l (cf a.eqs)) l
def callsQ (cf : List Qu → List Str) (l : List Str) (q : Qu) : List Str := callsA cf (if q.kind = 2 then addS l q.name else l) q.arms
def callsF : Nat → List Qu → List Str
 | 0, Q => Q.foldl (callsQ (fun _ => [])) []
 | d + 1, Q => Q.foldl (callsQ (callsF d)) []
def CaQ (S : List Str) (PC : List Qu → Prop) (q : Qu) : Prop := (q.kind = 2 → q.name ∈ S) ∧ ∀ a ∈ q.arms, PC a.eqs
def CaB (S : List Str) : Nat → List Qu → Prop
 | 0, Q => ∀ q ∈ Q, CaQ S (fun _ => False) q
 | d + 1, Q => ∀ q ∈ Q, CaQ S (CaB S d) q
def CallsC (S : List Str) (cf : List Qu → List Str) (Q : List Qu) : Prop := (∀ (V : List Va) (m : M), ACalls Tryz.prog 51 [.ag [.sl .no (V.map Va.pv), .sl .no (Q.map Qu.pv)]] m (fun v m' => v = .sl .no ((cf Q).map pS) ∧ m' = m)) ∧ Own1 S (cf Q)
theorem Own1.callsA {S : List Str} {cf : List Qu → List Str} {PC : List Qu → Prop} (hPC : ∀ Q, PC Q → CallsC S cf Q) : ∀ {ar : List Am} {l : List Str}, Own1 S l → (∀ a ∈ ar, PC a.eqs) → Own1 S (callsA cf l ar)
 | [], l, h, _ => h
 | a :: r, l, h, hr => Own1.callsA hPC (ar := r) (h.addL (hPC _ (hr a (List.mem_cons_self ..))).2.2) (fun x hx => hr x (List.mem_cons_of_mem _ hx))
theorem Own1.callsQ {S : List Str} {cf : List Qu → List Str} {PC : List Qu → Prop} (hPC : ∀ Q, PC Q → CallsC S cf Q) {q : Qu} {l : List Str} (h : Own1 S l) (hq : CaQ S PC q) : Own1 S (callsQ cf l q) := by
 unfold Go.Proofs.YthhhnfjcaicjnaaGreatDoor.callsQ
 refine Own1.callsA hPC ?_ hq.2
 split
 ·rename_i h2; exact h.add (hq.1 h2)
 ·exact h
theorem Own1.calls {S : List Str} {cf : List Qu → List Str} {PC : List Qu → Prop} (hPC : ∀ Q, PC Q → CallsC S cf Q) : ∀ {Q : List Qu} {l : List Str}, Own1 S l → (∀ q ∈ Q, CaQ S PC q) → Own1 S (Q.foldl (Go.Proofs.YthhhnfjcaicjnaaGreatDoor.callsQ cf) l)
 | [], l, h, _ => h
 | q :: r, l, h, hr => Own1.calls hPC (Q := r) (h.callsQ hPC (hr q (List.mem_cons_self ..))) (fun x hx => hr x (List.mem_cons_of_mem _ hx))
theorem addL_take {l r : List Str} {j : Nat} (h : j < r.length) : addL l (r.take (j + 1)) = addS (addL l (r.take j)) r[j] := by
 unfold addL; rw [List.take_succ_eq_append_getElem h, List.foldl_append]; rfl
theorem callsA_take {cf : List Qu → List Str} {l : List Str} {r : List Am} {j : Nat} (h : j < r.length) : callsA cf l (r.take (j + 1)) = addL (callsA cf l (r.take j)) (cf r[j].eqs) := by
 unfold callsA; rw [List.take_succ_eq_append_getElem h, List.foldl_append]; rfl
theorem callsQ_take {cf : List Qu → List Str} {l : List Str} {r : List Qu} {j : Nat} (h : j < r.length) : (r.take (j + 1)).foldl (callsQ cf) l = callsQ cf ((r.take j).foldl (callsQ cf) l) r[j] := by
 rw [List.take_succ_eq_append_getElem h, List.foldl_append]; rfl
set_option maxHeartbeats 4000000 in
theorem calls_step {S : List Str} (hS : S.length ≤ 2 ^ 30) {cf : List Qu → List Str} {PC : List Qu → Prop} (hPC : ∀ Q, PC Q → CallsC S cf Q) (Q : List Qu) (hQ : ∀ q ∈ Q, CaQ S PC q) :
    CallsC S (fun Q => Q.foldl (callsQ cf) []) Q := by
 refine ⟨fun V m => ?_, Own1.calls hPC (.nil S) hQ⟩
 have hO : ∀ k, Own1 S ((Q.take k).foldl (callsQ cf) []) := fun k => Own1.calls hPC (.nil S) (fun q hq => hQ q (List.mem_of_mem_take hq))
 refine eN [] Tryz.func51 ?_
 (repeat (first | refine aSeq fun X hX => ?_ | refine aBlk ?_ | refine aReg ?_; simp -implicitDefEqProofs only [↓slp, slb, ↓reduceIte, reduceCtorEq, jA, jB, jE, tfNwK] | apply hX; clear hX X | intro hlen; unfold maxLen at hlen))
 obtain ⟨I, hI⟩ : ∃ I : F → M → Prop, ∀ f m', I f m' = (∃ (k : Nat) (o : Own), k ≤ Q.length ∧ f 3 = .sl o (((Q.take k).foldl (callsQ cf) []).map pS) ∧ f 11 = .sl .no (Q.map Qu.pv) ∧ f 12 = pI Q.length ∧ f 13 = pI k ∧ Toks m m' ∧ Mine m m' o 1) := ⟨_, fun _ _ => rfl⟩
 refine aLoop I (fun f m => Q.length - numOf (f 13)) ?_ ?_
 ·rw [hI]; exact ⟨0, .full, by omega, rfl, rfl, rfl, rfl, .refl _, .full⟩
 intro f m' hrel
 rw [hI] at hrel
 obtain ⟨k, o, hk, f3, f11, f12, f13, htk, hmi⟩ := hrel
 cases c1 : decide ((k : Int) < (Q.length : Int)) with
 | false =>
  have hkk : k = Q.length := by simp at c1; omega
  subst hkk
  rw [List.take_length] at f3
  (repeat (first | refine aSeq fun X hX => ?_ | (first | refine aExit ?_ | refine aRet ?_); try simp only [slx, ↓reduceIte, jA, reduceCtorEq] | (first | apply aReg | apply aIf); simp -implicitDefEqProofs only [↓slp, slb, ↓reduceIte, jA, f3, f12, f13, pI, c1] | apply hX; clear hX X | clear hX X; apply hX; clear hX X))
  simp only [aPost, Tryz.results51, aRes_n, aRes_t, aRes_c, pack_one, pack_two]
  simp -implicitDefEqProofs only [slb, ↓reduceIte]
  exact leave_toks0 htk rfl ⟨rfl, rfl⟩
 | true =>
  have hlt : k < Q.length := by simpa using c1
  have g0 := getD_map Qu.pv Q k hlt
  have hi : IntKind.i64.wrap ((k : Int) + 1) = ((k + 1 : Nat) : Int) := by rw [wrap64 (by omega)]; omega
  have hme : numOf (f 13) = k := by rw [f13]; exact Int.toNat_natCast k
  have hq := hQ Q[k] (List.getElem_mem hlt)
  have hnx := callsQ_take (cf := cf) (l := []) hlt
  have hOk := hO k
  generalize hLk : (Q.take k).foldl (callsQ cf) [] = L at *
  generalize Q[k] = q at *
  obtain ⟨L1, hL1⟩ : ∃ L1, (if q.kind = 2 then addS L q.name else L) = L1 := ⟨_, rfl⟩
  have hO1 : Own1 S L1 := by
   rw [← hL1]
   split
   ·rename_i h2; exact hOk.add (hq.1 h2)
   ·exact hOk
  have hOj : ∀ j, Own1 S (callsA cf L1 (q.arms.take j)) := fun j => Own1.callsA hPC hO1 (fun a ha => hq.2 a (List.mem_of_mem_take ha))
  have hfin : callsA cf L1 q.arms = callsQ cf L q := by unfold callsQ; rw [hL1]
  have hLn := hOk.len
  obtain ⟨J, hJ⟩ : ∃ J : F → M → Prop, ∀ f m', J f m' = (∃ (j : Nat) (o : Own), j ≤ q.arms.length ∧ f 3 = .sl o ((callsA cf L1 (q.arms.take j)).map pS) ∧ f 11 = .sl .no (Q.map Qu.pv) ∧ f 12 = pI Q.length ∧ f 13 = pI k ∧ f 25 = .sl .no (q.arms.map Am.pv) ∧ f 26 = pI q.arms.length ∧ f 27 = pI j ∧ Toks m m' ∧ Mine m m' o 1) := ⟨_, fun _ _ => rfl⟩
  (repeat (first | refine aSeq fun X hX => ?_ | refine aSkip ?_ | (first | apply aReg | apply aIf); simp -implicitDefEqProofs only [↓slp, slb, ↓reduceIte, reduceCtorEq, jA, jB, jE, jF, tfNwK, f11, f12, f13, pI, c1, g0] | apply hX; clear hX X | apply And.intro; focus omega))
  have join : ∀ (f : F) (m' : M) (o : Own), f 3 = .sl o (L1.map pS) → f 5 = .ep q.cs → f 11 = .sl .no (Q.map Qu.pv) → f 12 = pI Q.length → f 13 = pI k → Toks m m' → Mine m m' o 1 → X f m' := by
   clear f3 f11 f12 f13 htk hmi
   intro f m' o f3 f5 f11 f12 f13 htk hmi
   refine hX _ _ ?_
   clear hX X
   (repeat (first | refine aSeq fun X hX => ?_ | refine aBlk ?_ | refine aReg ?_; simp -implicitDefEqProofs only [↓slp, slb, ↓reduceIte, reduceCtorEq, jB, jE, tfNwK, f5] | apply hX; clear hX X | intro hlen; unfold maxLen at hlen))
   refine aLoop J (fun f m => q.arms.length - numOf (f 27)) ?_ ?_
   ·rw [hJ]
    exact ⟨0, o, by omega, f3, f11, f12, f13, rfl, rfl, rfl, htk, hmi⟩
   clear f3 f5 f11 f12 f13 htk hmi
   intro f m' hrel
   rw [hJ] at hrel
   obtain ⟨j, o, hj, f3, f11, f12, f13, f25, f26, f27, htk, hmi⟩ := hrel
   cases c3 : decide ((j : Int) < (q.arms.length : Int)) with
   | false =>
    have hjj : j = q.arms.length := by simp at c3; omega
    subst hjj
    rw [List.take_length, hfin] at f3
    (repeat (first | refine aSeq fun X hX => ?_ | refine aExit ?_; try simp only [slx, ↓reduceIte, jA, reduceCtorEq] | (first | apply aReg | apply aIf); simp -implicitDefEqProofs only [↓slp, slb, ↓reduceIte, jA, f13, hi, f26, f27, pI, c3] | apply hX; clear hX X | clear hX X; apply hX; clear hX X))
    rw [hI]
    exact ⟨⟨k + 1, o, hlt, by rw [hnx]; exact f3, f11, f12, rfl, htk, hmi⟩, by omega⟩
   | true =>
    have hltj : j < q.arms.length := by simpa using c3
    have gj := getD_map Am.pv q.arms j hltj
    have hij : IntKind.i64.wrap ((j : Int) + 1) = ((j + 1 : Nat) : Int) := by rw [wrap64 (by omega)]; omega
    have hmej : numOf (f 27) = j := by rw [f27]; exact Int.toNat_natCast j
    have ha := hPC _ (hq.2 q.arms[j] (List.getElem_mem hltj))
    have hnj := callsA_take (cf := cf) (l := L1) hltj
    have hOjj := hOj j
    generalize hAj : callsA cf L1 (q.arms.take j) = A at *
    generalize q.arms[j] = a at *
    have hac := ha.1 a.vars
    generalize hR : cf a.eqs = R at *
    have hOr : ∀ i, Own1 S (addL A (R.take i)) := fun i => hOjj.addL (fun x hx => ha.2.2 x (by rw [hR]; exact List.mem_of_mem_take hx))
    (repeat (first | refine aSeq fun X hX => ?_ | refine aSkip ?_ | (first | apply aReg | apply aIf); simp -implicitDefEqProofs only [↓slp, slb, ↓reduceIte, reduceCtorEq, jA, jB, jE, jF, tfNwK, f25, f26, f27, pI, c3, gj] | apply hX; clear hX X | apply And.intro; focus omega))
    refine callE (hac m') ?_
    refine wS tfNwK ?_
    (repeat (first | refine aBlk ?_ | apply hX; clear hX X | intro hlen; unfold maxLen at hlen))
    obtain ⟨J2, hJ2⟩ : ∃ J2 : F → M → Prop, ∀ f m', J2 f m' = (∃ (i : Nat) (o : Own), i ≤ R.length ∧ f 3 = .sl o ((addL A (R.take i)).map pS) ∧ f 11 = .sl .no (Q.map Qu.pv) ∧ f 12 = pI Q.length ∧ f 13 = pI k ∧ f 25 = .sl .no (q.arms.map Am.pv) ∧ f 26 = pI q.arms.length ∧ f 27 = pI j ∧ f 33 = .sl .no (R.map pS) ∧ f 34 = pI R.length ∧ f 35 = pI i ∧ Toks m m' ∧ Mine m m' o 1) := ⟨_, fun _ _ => rfl⟩
    refine aLoop J2 (fun f m => R.length - numOf (f 35)) ?_ ?_
    ·rw [hJ2]; exact ⟨0, o, by omega, f3, f11, f12, f13, f25, f26, f27, rfl, rfl, rfl, htk, hmi⟩
    clear f3 f11 f12 f13 f25 f26 f27 htk hmi
    intro f m' hrel
    rw [hJ2] at hrel
    obtain ⟨i, o, hil, f3, f11, f12, f13, f25, f26, f27, f33, f34, f35, htk, hmi⟩ := hrel
    cases c4 : decide ((i : Int) < (R.length : Int)) with
    | true =>
     have hlti : i < R.length := by simpa using c4
     have gi := getD_map pS R i hlti
     have hii : IntKind.i64.wrap ((i : Int) + 1) = ((i + 1 : Nat) : Int) := by rw [wrap64 (by omega)]; omega
     have hmei : numOf (f 35) = i := by rw [f35]; exact Int.toNat_natCast i
     have hlen := (hOr i).len
     (repeat (first | refine aSeq fun X hX => ?_ | refine aSkip ?_ | (first | apply aReg | apply aIf); simp -implicitDefEqProofs only [↓slp, slb, ↓reduceIte, reduceCtorEq, jA, jB, tfNwK, f3, f33, f34, f35, pI, pS, c4, gi] | apply hX; clear hX X | apply And.intro; focus omega))
     refine callM (add_any o (addL A (R.take i)) R[i] m' hmi.free (by omega)) ?_
     rintro v mc ⟨rfl, rfl⟩
     refine wS aEQ_t ?_
     (repeat (first | refine aReg ?_; simp -implicitDefEqProofs only [↓slp, slb, ↓reduceIte, jA, f35, pI, hii] | apply hX; clear hX X))
     rw [hJ2]
     exact ⟨⟨i + 1, .tok m'.nt, hlti, by rw [addL_take hlti]; rfl, f11, f12, f13, f25, f26, f27, f33, f34, rfl, htk.use hmi, Mine.new htk o 1⟩, by omega⟩
    | false =>
     have hjj : i = R.length := by simp at c4; omega
     subst hjj
     rw [List.take_length] at f3
     (repeat (first | refine aSeq fun X hX => ?_ | refine aExit ?_; try simp only [slx, ↓reduceIte, jA, reduceCtorEq] | (first | apply aReg | apply aIf); simp -implicitDefEqProofs only [↓slp, slb, ↓reduceIte, jA, f27, hij, f34, f35, pI, c4] | apply hX; clear hX X | clear hX X; apply hX; clear hX X))
     rw [hJ]
     exact ⟨⟨j + 1, o, hltj, by rw [hnj]; exact f3, f11, f12, f13, f25, f26, rfl, htk, hmi⟩, by omega⟩
  cases c2 : (q.kind == 2) with
  | true =>
   have hk2 : q.kind = 2 := by simpa using c2
   rw [if_pos hk2] at hL1
   simp -implicitDefEqProofs only [slb, reduceCtorEq]
   refine vE (And.intro tfNwK f3) ?_; repeat intro X hX
   refine callM (add_any o L q.name m' hmi.free (by omega)) ?_
   rintro v mc ⟨rfl, rfl⟩
   refine wS aEQ_t ?_
   refine vE tfNwK ?_; repeat intro X hX
   exact join _ _ _ (by rw [← hL1]; rfl) rfl f11 f12 f13 (htk.use hmi) (Mine.new htk o 1)
  | false =>
   have hk2 : q.kind ≠ 2 := by simpa using c2
   rw [if_neg hk2] at hL1
   subst hL1
   simp -implicitDefEqProofs only [slb]
   (repeat refine aSkip ?_)
   exact join _ _ _ f3 rfl f11 f12 f13 htk hmi
theorem calls_any {S : List Str} (hS : S.length ≤ 2 ^ 30) : ∀ (d : Nat) (Q : List Qu), CaB S d Q → CallsC S (callsF d) Q
 | 0, Q, h => calls_step hS (PC := fun _ => False) (cf := fun _ => []) (fun _ h => h.elim) Q h
 | d + 1, Q, h => calls_step hS (PC := CaB S d) (cf := callsF d) (fun Q h => calls_any hS d Q h) Q h

def tfNwJ := tfNwI

def needsN (cf : Str → List Str) : Nat → List Str → List Str → List Str
 | 0, l, _ => l
 | _ + 1, l, [] => l
 | n + 1, l, x :: todo => needsN cf n (addL l (cf x)) (todo ++ (addL l (cf x)).drop l.length)
def cfN (d : Nat) (ns : List No) (x : Str) : List Str := match ns.find? (fun n => eqS n.name x) with
 | some n => callsF d n.b.eqs
 | none => []
theorem addL_app : ∀ (r l : List Str), ∃ t, addL l r = l ++ t
 | [], l => ⟨[], by simp [addL]⟩
 | s :: r, l => by
  obtain ⟨t, ht⟩ := addL_app r (addS l s)
  have h1 : addL l (s :: r) = addL (addS l s) r := rfl
  rw [h1, ht]
  unfold addS
  split
  ·exact ⟨t, rfl⟩
  ·exact ⟨[s] ++ t, by rw [List.append_assoc]⟩
theorem addL_len (l r : List Str) : l.length ≤ (addL l r).length := by
 obtain ⟨t, ht⟩ := addL_app r l
 rw [ht, List.length_append]; omega
theorem cfN_neg {d : Nat} {ns : List No} {x : Str} (h : ∀ n ∈ ns, eqS n.name x = false) : cfN d ns x = [] := by
 unfold cfN
 rw [List.find?_eq_none.2 (fun n hn => by rw [h n hn]; simp)]
theorem cfN_pos {d : Nat} {ns : List No} {x : Str} {j : Nat} (hj : j < ns.length) (h : eqS ns[j].name x = true) (hf : ∀ i (hi : i < ns.length), i < j → eqS ns[i].name x = false) : cfN d ns x = callsF d ns[j].b.eqs := by
 unfold cfN
 rw [show ns.find? (fun n => eqS n.name x) = some ns[j] from List.find?_eq_some_iff_getElem.2 ⟨h, j, hj, rfl, fun i hi => by rw [hf i (by omega) hi]; rfl⟩]
set_option maxHeartbeats 8000000 in
theorem needs_any {S : List Str} (hS : S.length ≤ 2 ^ 30) (d : Nat) (es : List PV) (ns : List No) (hC : ∀ n ∈ ns, CallsC S (callsF d) n.b.eqs) (s : Str) (m : M) :
    ACalls Tryz.prog 26 [.ag [.sl .no es, .sl .no (ns.map No.pv)], pS s] m (fun v m' => v = .sl .no ((needsN (cfN d ns) (2 * S.length + 1) [] [s]).map pS) ∧ Own1 S (needsN (cfN d ns) (2 * S.length + 1) [] [s]) ∧ m' = m) := by
 have hfn := fun (x : Str) (m : M) => findNode_any .no es ns x m
 have hct := fun (o : Own) (l : List Str) (s : Str) (m : M) => contains_any o l s m
 obtain ⟨R, hR⟩ : ∃ R, needsN (cfN d ns) (2 * S.length + 1) [] [s] = R := ⟨_, rfl⟩
 rw [hR]
 have hcfO : ∀ x, ∀ z ∈ cfN d ns x, z ∈ S := fun x z hz => by
  unfold cfN at hz
  split at hz
  ·rename_i n hn
   exact (hC n (List.mem_of_find?_eq_some hn)).2.2 z hz
  ·simp at hz
 refine eN [] Tryz.func26 ?_
 (repeat revert X); refine wE (And.intro tfNwJ @pS.eq_1) ?_; repeat intro X hX
 refine aLoopN (fun n f m' => ∃ (l todo : List Str) (ol ot : Own) (m2 : M) (g : Nat), n = todo.length + 2 * (S.length - l.length) ∧ n ≤ 2 * S.length + 1 ∧ n ≤ g ∧ needsN (cfN d ns) g l todo = R ∧ Own1 S l ∧ f 2 = .ep [.sl .no es, .sl .no (ns.map No.pv)] ∧ f 5 = .sl ol (l.map pS) ∧ f 6 = .sl ot (todo.map pS) ∧ Toks m m2 ∧ Mine m m2 ol 1 ∧ Mine m m2 ot 1 ∧ (∀ t, ol = .tok t → ot ≠ .tok t) ∧ m2 = m') (2 * S.length + 1) ?_ ?_
 ·exact ⟨[], [s], .full, .full, m, 2 * S.length + 1, by simp; omega, Nat.le_refl _, Nat.le_refl _, hR, .nil S, rfl, rfl, rfl, .refl _, .full, .full, (fun t h => by cases h), rfl⟩
 intro W n f m' hJ hW
 obtain ⟨l, todo, ol, ot, m2, g, hn, hnS, hng, hnd, hO, f2, f5, f6, htk, hml, hmt, hne, rfl⟩ := hJ
 cases todo with
 | nil =>
  have hlR : l = R := by rw [← hnd]; cases g <;> rfl
  subst hlR
  have c0 : decide (((0 : Nat) : Int) > 0) = false := rfl
  (repeat revert X); refine wE (And.intro tfNwJ (And.intro f5 (And.intro f6 c0))) ?_; repeat intro X hX
  refine wQ Tryz.results26 aEQ_t ?_
  exact leave_toks0 htk rfl ⟨rfl, hO, rfl⟩
 | cons x todo =>
  have c0 : decide ((((todo.length + 1 : Nat)) : Int) > 0) = true := by simp
  simp only [List.length_cons] at hn
  obtain ⟨g', rfl⟩ : ∃ g', g = g' + 1 := ⟨g - 1, by omega⟩
  have hnd2 : needsN (cfN d ns) g' (addL l (cfN d ns x)) (todo ++ (addL l (cfN d ns x)).drop l.length) = R := hnd
  have hLt := str_one (x :: todo)
  rw [List.map_cons] at hLt
  (repeat revert X); refine wE (And.intro tfNwJ (And.intro f6 c0)) ?_; repeat intro X hX
  (repeat revert X); refine wD (And.intro tfNwJ (And.intro f2 f6)) ?_; repeat intro X hX
  refine callE (hfn x _) ?_
  rcases idxF_at (p := fun n : No => eqS n.name x) ns 0 with ⟨h1, h2⟩ | ⟨j, hj, h1, h2, h3⟩
  ·rw [h1]
   have c1 : decide ((-1 : Int) < 0) = true := rfl
   rw [cfN_neg h2] at hnd2
   have e1 : addL l [] = l := rfl
   rw [e1, List.drop_length, List.append_nil] at hnd2
   refine wS @pI.eq_1 ?_
   (repeat (first | refine aSeq fun X hX => ?_ | refine aReg ?_; simp -implicitDefEqProofs only [↓slp, slb, ↓reduceIte, jA, jB, jH, jJ, tfNwJ, f6] | apply hX; clear hX X))
   refine ⟨⟨by omega, by omega, _, rfl, rfl, str_one todo⟩, ?_⟩
   have htk0 : List.take todo.length (todo.map pS) = todo.map pS := List.take_of_length_le (by simp)
   rw [htk0]
   (repeat revert X); refine wE aEQ_t ?_; repeat intro X hX
   refine hW (todo.length + 2 * (S.length - l.length)) _ _ (by omega) ⟨l, todo, ol, ot, m2, g', rfl, by omega, by omega, hnd2, hO, f2, f5, rfl, htk, hml, hmt, hne, rfl⟩
  ·rw [Nat.zero_add] at h1
   rw [h1]
   have c1 : decide ((j : Int) < 0) = false := by simp
   rw [cfN_pos hj h2 (fun i hi hij => h3 i hij)] at hnd2
   have g0 := getD_map No.pv ns j hj
   have hcc := hC ns[j] (List.getElem_mem hj)
   generalize ns[j] = nd at *
   obtain ⟨hca, hcO⟩ := hcc
   have hca := hca nd.b.vars
   generalize callsF d nd.b.eqs = C at *
   refine wS @pI.eq_1 ?_
   (repeat (first | refine aSeq fun X hX => ?_ | refine aReg ?_; simp -implicitDefEqProofs only [↓slp, slb, ↓reduceIte, jA, jB, jH, jJ, tfNwJ, f6] | apply hX; clear hX X))
   refine ⟨⟨by omega, by omega, _, rfl, rfl, str_one todo⟩, ?_⟩
   have htk0 : List.take todo.length (todo.map pS) = todo.map pS := List.take_of_length_le (by simp)
   rw [htk0]
   (repeat (first | refine aSeq fun X hX => ?_ | refine aSkip ?_ | (first | apply aReg | apply aIf); simp -implicitDefEqProofs only [↓slp, slb, ↓reduceIte, reduceCtorEq, jA, jB, jE, tfNwJ, c1, f2, g0] | apply hX; clear hX X | apply And.intro; focus omega))
   refine callE (hca _) ?_
   refine wS tfNwJ ?_
   (repeat (first | refine aBlk ?_ | apply hX; clear hX X | intro hlen; unfold maxLen at hlen))
   have hlO := hO.len
   have hOi : ∀ i, Own1 S (addL l (C.take i)) := fun i => hO.addL (fun z hz => hcO.2 z (List.mem_of_mem_take hz))
   obtain ⟨J, hJ⟩ : ∃ J : F → M → Prop, ∀ f m', J f m' = (∃ (i : Nat) (L T : List Str) (ol ot : Own) (m2 : M), i ≤ C.length ∧ L = addL l (C.take i) ∧ T = todo ++ L.drop l.length ∧ f 2 = .ep [.sl .no es, .sl .no (ns.map No.pv)] ∧ f 5 = .sl ol (L.map pS) ∧ f 6 = .sl ot (T.map pS) ∧ f 30 = .sl .no (C.map pS) ∧ f 31 = pI C.length ∧ f 32 = pI i ∧ Toks m m2 ∧ Mine m m2 ol 1 ∧ Mine m m2 ot 1 ∧ (∀ t, ol = .tok t → ot ≠ .tok t) ∧ m2 = m') := ⟨_, fun _ _ => rfl⟩
   refine aLoop J (fun f m => C.length - numOf (f 32)) ?_ ?_
   ·rw [hJ]; exact ⟨0, l, todo, ol, ot, m2, by omega, rfl, by rw [List.drop_length, List.append_nil], f2, f5, rfl, rfl, rfl, rfl, htk, hml, hmt, hne, rfl⟩
   clear f2 f5 f6 htk hml hmt hne
   intro f m' hrel
   rw [hJ] at hrel
   obtain ⟨i, L, T, ol, ot, m2, hi, hL, hT, f2, f5, f6, f30, f31, f32, htk, hml, hmt, hne, rfl⟩ := hrel
   have hLl : l.length ≤ L.length := by rw [hL]; exact addL_len _ _
   have hLS : L.length ≤ S.length := by rw [hL]; exact (hOi i).len
   have hTl : T.length ≤ 2 ^ 33 := by rw [hT, List.length_append, List.length_drop]; omega
   cases c2 : decide ((i : Int) < (C.length : Int)) with
   | true =>
    have hlti : i < C.length := by simpa using c2
    have gi := getD_map pS C i hlti
    have hii : IntKind.i64.wrap ((i : Int) + 1) = ((i + 1 : Nat) : Int) := by rw [wrap64 (by omega)]; omega
    have hmei : numOf (f 32) = i := by rw [f32]; exact Int.toNat_natCast i
    have hnx : addL l (C.take (i + 1)) = addS L C[i] := by rw [addL_take hlti, hL]
    have hcx := hct ol L C[i]
    (repeat (first | refine aSeq fun X hX => ?_ | refine aSkip ?_ | (first | apply aReg | apply aIf); simp -implicitDefEqProofs only [↓slp, slb, ↓reduceIte, reduceCtorEq, jA, jB, tfNwJ, f5, f30, f31, f32, pI, c2, gi] | apply hX; clear hX X | apply And.intro; focus omega))
    refine callE (hcx _) ?_
    cases hh : hasS L C[i] with
    | true =>
     have hnx2 : addL l (C.take (i + 1)) = L := by rw [hnx]; unfold addS; rw [hh]; rfl
     refine wS @pB.eq_1 ?_
     (repeat (first | refine aSkip ?_ | (first | apply aReg | apply aIf); simp -implicitDefEqProofs only [↓slp, slb, ↓reduceIte, jA, f32, pI, hii] | apply hX; clear hX X))
     rw [hJ]
     exact ⟨⟨i + 1, L, T, ol, ot, m2, hlti, hnx2.symm, hT, f2, f5, f6, f30, f31, rfl, htk, hml, hmt, hne, rfl⟩, by omega⟩
    | false =>
     have hnx2 : addL l (C.take (i + 1)) = L ++ [C[i]] := by rw [hnx]; unfold addS; rw [hh]; rfl
     have hT2 : T ++ [C[i]] = todo ++ (L ++ [C[i]]).drop l.length := by rw [List.drop_append_of_le_length hLl, hT, List.append_assoc]
     have hfl := hml.free
     have hml2 := Mine.other (s := 1) hmt hne
     have hft := hml2.free
     have hLL := str_one L
     have hLT := str_one T
     have h1c : ∀ y ∈ [pS C[i]], y.cells.length = 1 := str_one [C[i]]
     have hmx1 : L.length + 1 ≤ maxLen := by unfold maxLen; omega
     have hmx2 : T.length + 1 ≤ maxLen := by unfold maxLen; omega
     refine wS @pB.eq_1 ?_
     (repeat (first | (first | apply aReg | apply aIf); simp -implicitDefEqProofs only [forall_eq, ↓slp, slb, ↓reduceIte, reduceCtorEq, jA, jB, jC, jE, tfNwJ, f5, f6, f32, pI, hii] | apply hX; clear hX X | apply And.intro; focus ((repeat' apply And.intro) <;> first | omega | assumption)))
     rw [hJ]
     have mn := Mine.new htk ol 1
     exact ⟨⟨i + 1, L ++ [C[i]], T ++ [C[i]], .tok m2.nt, .tok ((ol.use m2).fresh 1).nt, (ot.use ((ol.use m2).fresh 1)).fresh 1, hlti, hnx2.symm, hT2, f2, by rw [List.map_append]; rfl, by rw [List.map_append]; rfl, f30, f31, rfl, (htk.use hml).use hml2, Mine.other mn (Mine.new_ne hmt), Mine.new (htk.use hml) ot 1, Mine.new_ne mn, rfl⟩, by omega⟩
   | false =>
    have hii : i = C.length := by simp at c2; omega
    subst hii
    rw [List.take_length] at hL
    (repeat revert X); refine wE (And.intro f31 (And.intro f32 (And.intro @pI.eq_1 c2))) ?_; repeat intro X hX
    refine hW (T.length + 2 * (S.length - L.length)) _ _ (by rw [hT, List.length_append, List.length_drop]; omega) ⟨L, T, ol, ot, m2, g', rfl, by rw [hT, List.length_append, List.length_drop]; omega, by rw [hT, List.length_append, List.length_drop]; omega, by rw [hT, hL]; exact hnd2, by have := hOi C.length; rw [List.take_length, ← hL] at this; exact this, f2, f5, f6, htk, hml, hmt, hne, rfl⟩
def clF : Nat → List Qu → List Str
 | 0, Q => Q.flatMap (fun q => [q.name])
 | d + 1, Q => Q.flatMap (fun q => q.name :: q.arms.flatMap (fun a => clF d a.eqs))
theorem clF_ca (S : List Str) : ∀ (d : Nat) (V : List Va) (Q : List Qu), RsB d V Q → (∀ z ∈ clF d Q, z ∈ S) → CaB S d Q
 | 0, V, Q, h, hs => fun q hq => ⟨fun _ => hs _ (List.mem_flatMap.2 ⟨q, hq, List.mem_singleton.2 rfl⟩), (h q hq).2⟩
 | d + 1, V, Q, h, hs => fun q hq => ⟨fun _ => hs _ (List.mem_flatMap.2 ⟨q, hq, List.mem_cons_self ..⟩), fun a ha => clF_ca S d a.vars a.eqs ((h q hq).2 a ha) (fun z hz => hs z (List.mem_flatMap.2 ⟨q, hq, List.mem_cons_of_mem _ (List.mem_flatMap.2 ⟨a, ha, hz⟩)⟩))⟩
theorem flat_lenW {α β : Type} (f : α → List β) (g : α → Nat) : ∀ (l : List α), (∀ x ∈ l, (f x).length ≤ g x) → (l.flatMap f).length ≤ (l.map g).sum
 | [], _ => Nat.le_refl _
 | x :: l, h => by
  rw [List.flatMap_cons, List.length_append, List.map_cons, List.sum_cons]
  have h1 := h x (List.mem_cons_self ..)
  have h2 := flat_lenW f g l (fun y hy => h y (List.mem_cons_of_mem _ hy))
  omega
theorem clF_len : ∀ (d : Nat) (V : List Va) (Q : List Qu), (clF d Q).length ≤ wtF d V Q
 | 0, V, Q => by
  have h := flat_lenW (fun q : Qu => [q.name]) (wtQ (fun _ _ => 0)) Q (fun q _ => wtQ_pos _ q)
  have e : wtF 0 V Q = V.length + (Q.map (wtQ (fun _ _ => 0))).sum := rfl
  have e2 : clF 0 Q = Q.flatMap (fun q => [q.name]) := rfl
  rw [e, e2]; omega
 | d + 1, V, Q => by
  have h := flat_lenW (fun q : Qu => q.name :: q.arms.flatMap (fun a => clF d a.eqs)) (wtQ (wtF d)) Q (fun q _ => by
   have h1 := flat_lenW (fun a : Am => clF d a.eqs) (wtA (wtF d)) q.arms (fun a _ => by
    have := clF_len d a.vars a.eqs
    unfold wtA; omega)
   rw [List.length_cons]
   unfold wtQ; omega)
  have e : wtF (d + 1) V Q = V.length + (Q.map (wtQ (wtF d))).sum := rfl
  have e2 : clF (d + 1) Q = Q.flatMap (fun q => q.name :: q.arms.flatMap (fun a => clF d a.eqs)) := rfl
  rw [e, e2]; omega
theorem nneeds_any (d : Nat) (es : List PV) (ns : List No) (hd : ∀ n ∈ ns, RsB d n.b.vars n.b.eqs) (hw : (ns.map (fun n => wtF d n.b.vars n.b.eqs)).sum ≤ 2 ^ 30) (s : Str) (m : M) :
    ACalls Tryz.prog 26 [.ag [.sl .no es, .sl .no (ns.map No.pv)], pS s] m (fun v m' => (∃ r : List Str, v = .sl .no (r.map pS)) ∧ m' = m) := by
 have hS : (ns.flatMap (fun n => clF d n.b.eqs)).length ≤ 2 ^ 30 := Nat.le_trans (flat_lenW _ _ ns (fun n _ => clF_len d n.b.vars n.b.eqs)) hw
 have hC : ∀ n ∈ ns, CallsC (ns.flatMap (fun n => clF d n.b.eqs)) (callsF d) n.b.eqs := fun n hn => calls_any hS d n.b.eqs (clF_ca _ d n.b.vars n.b.eqs (hd n hn) (fun z hz => List.mem_flatMap.2 ⟨n, hn, hz⟩))
 exact ACallsZ.mono (needs_any hS d es ns hC s m) (fun v m' h => ⟨⟨_, h.1⟩, h.2.2⟩) (fun _ _ h => h)

def tfNwL := tfNwB

set_option maxHeartbeats 2000000 in
theorem nclo_ret (x : PV) (m : M) : DRet Tryz.prog 20 [x] m (fun m' => m' = m) := by
 refine DRet.of (mu := []) ok_mix Tryz.func20 rfl rfl ⟨rfl, rfl, rfl⟩ (by kernel_rfl) (by decide) (by simp only [List.length_cons, List.length_nil, Tryz.ntmps20]; omega) ?_
 (repeat (first | refine aSeq fun X hX => ?_ | refine aReg ?_; simp -implicitDefEqProofs only [↓slp, slb, ↓reduceIte, tfNwL] | apply hX; clear hX X))
 refine aIf ?_; simp -implicitDefEqProofs only [slb, ↓reduceIte, reduceCtorEq]
 (repeat (refine aReg ?_; simp -implicitDefEqProofs only [↓slp, slb, ↓reduceIte, reduceCtorEq, jA]))
set_option maxHeartbeats 2000000 in
theorem nclo_pan (id : Nat) (x : PV) (l c k : Int) (m : M) (hg : m.get id = some [x]) : DPan Tryz.prog 20 [.bp id 0] (nStop k l c) m (fun m' => m' = m.upd id [pA l c k]) := by
 refine DPan.of (mu := []) ok_mix Tryz.func20 rfl rfl ⟨rfl, rfl, rfl⟩ (by kernel_rfl) (by decide) (by simp only [List.length_cons, List.length_nil, Tryz.ntmps20]; omega) ?_
 have hu := Tryz.underlying80
 (repeat (first | refine aSeq fun X hX => ?_ | (first | apply aReg | apply aIf); simp -implicitDefEqProofs only [↓slp, slb, ↓reduceIte, reduceCtorEq, jA, jB, jE, jF, tfNwL, hu, hg] | apply hX; clear hX X))
def NeW (v : PV) : Prop := v = .v .nilIface ∨ ∃ k l c, v = pA l c k
theorem NeW.within {v : PV} (h : NeW v) (a b : Nat) : v.within a b = true := by
 rcases h with rfl | ⟨k, l, c, rfl⟩ <;> rfl
set_option maxHeartbeats 16000000 in
theorem ncheck_any (ns : List No) (E : List En) (d : Nat) (hl : E.length ≤ 1000000) (hc : (E.flatMap En.ctors).length ≤ 1000000) (hN : ∀ n ∈ ns, NdW d n) (hw : (ns.map (fun n => wtF d n.b.vars n.b.eqs)).sum ≤ 2 ^ 30) (hln : ns.length ≤ 1000000) (m : M) :
    ACalls Tryz.prog 8 [.ag [.sl .no (E.map En.pv), .sl .no (ns.map No.pv)]] m (fun v m' => NeW v ∧ m' = m) := by
 refine ACalls.leave (R := fun v m' => NeW v ∧ m' = m.ext [some [v]]) ?_ (fun v m' ⟨h1, h2⟩ => by
  rcases h1 with rfl | ⟨k, l, c, rfl⟩
  ·subst h2; exact leave_ext rfl ⟨.inl rfl, rfl⟩
  ·subst h2; exact leave_ext rfl ⟨.inr ⟨k, l, c, rfl⟩, rfl⟩)
 have hnd := fun (n : No) (hn : n ∈ ns) m => nnode_any ns E d n (hN n hn) m
 have hen := fun m => nenums_any ns E hl hc m
 have hfn := fun (s : Str) m => findNode_any .no (E.map En.pv) ns s m
 have hne := fun (s : Str) m => nneeds_any d (E.map En.pv) ns (fun n hn => (hN n hn).2.2) hw s m
 have hct := fun (o : Own) (l : List Str) (s : Str) (m : M) => contains_any o l s m
 have hf4 := fun (l c : Int) m => nfail_any 4 l c rfl m
 have hf6 := fun (l c : Int) m => nfail_any 6 l c rfl m
 unfold lkE at *
 obtain ⟨Xf, hXf⟩ : ∃ Xf : F → M → Prop, ∀ f1 m1, Xf f1 m1 = ((f1 1 = .ep [.sl .no (E.map En.pv), .sl .no (ns.map No.pv)] ∧ f1 2 = .bp m.nb 0) ∧ m1 = m.ext [some [.v .nilIface]]) := ⟨_, fun _ _ => rfl⟩
 refine ACalls.enterDL (mu := [2]) (l := [_]) (kps := [2]) ok_mix Tryz.func8 rfl (by kernel_rfl) (by kernel_rfl) ⟨rfl, rfl, rfl⟩ ⟨rfl, rfl, rfl, rfl, rfl⟩ ?_ (fun kv => by rw [bd_kv _ _ kv (fun _ => undef)]; kernel_rfl) ⟨by decide, by decide⟩ (by simp only [List.length_cons, List.length_nil, Tryz.ntmps8]; omega) Xf ?_ ?_
 ·intro A hA
  simp only [List.mem_cons, List.not_mem_nil, or_false] at hA
  rcases hA with rfl
  kernel_rfl
 ·unfold aPre
  (repeat revert X); refine wW tfNwL ?_; repeat intro X hX
  show Xf _ _
  rw [hXf]
  exact ⟨⟨rfl, rfl⟩, rfl⟩
 ·intro f1 m1 hx
  rw [hXf] at hx
  obtain ⟨⟨f1', f2⟩, rfl⟩ := hx
  have hargs : (#[Operand.tmp 2] : Array Operand).toList.map (ev f1) = [.bp m.nb 0] := by
   simp only [List.map_cons, List.map_nil, ev_tmp, f2]
  have k2 : (F.only [2] f1) 2 = .bp m.nb 0 := by unfold F.only; rw [if_pos (by simp)]; exact f2
  obtain ⟨ms, hms⟩ : ∃ ms, m.ext [some [.v .nilIface]] = ms := ⟨_, rfl⟩
  have hup : ∀ c, ms.upd m.nb c = m.ext [some c] := fun c => by rw [← hms]; simp [ext_upd0]
  have hgs : ms.get m.nb = some [.v .nilIface] := by rw [← hms]; exact ext_get (i := 0) rfl
  rw [hms]
  refine ⟨fun m2 => m2 = ms, ZN ms, ?_, ?_, ?_⟩
  ·((repeat revert X); refine wE (And.intro tfNwL (And.intro f1' f2)) ?_; repeat intro X hX)
   refine callP (hen ms) (fun _ _ h => h) ?_
   rintro v m' ⟨rfl, hm'⟩
   have h := hm'.symm
   subst h
   refine wS aEQ_t ?_
   (repeat revert X); refine wE (And.intro tfNwL f1') ?_; repeat intro X hX
   obtain ⟨I, hI⟩ : ∃ I : F → M → Prop, ∀ f m', I f m' = (∃ (k : Nat), k ≤ ns.length ∧ f 1 = .ep [.sl .no (E.map En.pv), .sl .no (ns.map No.pv)] ∧ f 2 = .bp m.nb 0 ∧ f 3 = .ep [.sl .no (E.map En.pv), .sl .no (ns.map No.pv)] ∧ f 17 = .sl .no (ns.map No.pv) ∧ f 18 = pI ns.length ∧ f 19 = pI k ∧ ms = m') := ⟨_, fun _ _ => rfl⟩
   refine aLoop I (fun f m => ns.length - numOf (f 19)) ?_ ?_
   ·rw [hI]; exact ⟨0, by omega, f1', f2, rfl, rfl, rfl, rfl, rfl⟩
   clear f1' f2
   intro f m' hrel
   rw [hI] at hrel
   obtain ⟨k, hk, f1', f2, f3, f17, f18, f19, rfl⟩ := hrel
   cases c1 : decide ((k : Int) < (ns.length : Int)) with
   | true =>
    have hlt : k < ns.length := by simpa using c1
    have g0 := getD_map No.pv ns k hlt
    have hi : IntKind.i64.wrap ((k : Int) + 1) = ((k + 1 : Nat) : Int) := by rw [wrap64 (by omega)]; omega
    have hme : numOf (f 19) = k := by rw [f19]; exact Int.toNat_natCast k
    have hf := hfn ns[k].name
    have hf41 := hf4 ns[k].line ns[k].col
    generalize ns[k] = n at *
    cases dk : decide (idxF (fun x : No => eqS x.name n.name) ns 0 < (k : Int)) with
    | true =>
     (repeat (first | refine aSeq fun X hX => ?_ | refine aSkip ?_ | (first | apply aReg | apply aIf); simp -implicitDefEqProofs only [↓slp, slb, ↓reduceIte, reduceCtorEq, jA, jB, jE, jF, tfNwL, f1', f17, f18, f19, pI, c1, g0] | apply hX; clear hX X | apply And.intro; focus omega))
     refine callE (hf _) ?_
     refine wS (And.intro @pI.eq_1 dk) ?_
     (repeat revert X); refine wD (And.intro tfNwL (And.intro f19 @pI.eq_1)) ?_; repeat intro X hX
     exact callP (hf41 _) (fun _ _ h => h) (fun v m' h => h.elim)
    | false =>
     (repeat (first | refine aSeq fun X hX => ?_ | refine aSkip ?_ | (first | apply aReg | apply aIf); simp -implicitDefEqProofs only [↓slp, slb, ↓reduceIte, reduceCtorEq, jA, jB, jE, jF, tfNwL, f1', f17, f18, f19, pI, c1, g0] | apply hX; clear hX X | apply And.intro; focus omega))
     refine callE (hf _) ?_
     refine wS (And.intro @pI.eq_1 dk) ?_
     (repeat (first | refine aSkip ?_ | (first | apply aReg | apply aIf); simp -implicitDefEqProofs only [↓slp, slb, ↓reduceIte, jA, jF, f19, pI, hi] | apply hX; clear hX X))
     rw [hI]
     exact ⟨⟨k + 1, hlt, f1', f2, f3, f17, f18, rfl, rfl⟩, by omega⟩
   | false =>
    (repeat revert X); refine wE (And.intro tfNwL (And.intro f1' (And.intro f18 (And.intro f19 (And.intro @pI.eq_1 c1))))) ?_; repeat intro X hX
    obtain ⟨J, hJ⟩ : ∃ J : F → M → Prop, ∀ f m', J f m' = (∃ (k : Nat), k ≤ ns.length ∧ f 1 = .ep [.sl .no (E.map En.pv), .sl .no (ns.map No.pv)] ∧ f 2 = .bp m.nb 0 ∧ f 3 = .ep [.sl .no (E.map En.pv), .sl .no (ns.map No.pv)] ∧ f 35 = .sl .no (ns.map No.pv) ∧ f 36 = pI ns.length ∧ f 37 = pI k ∧ ms = m') := ⟨_, fun _ _ => rfl⟩
    refine aLoop J (fun f m => ns.length - numOf (f 37)) ?_ ?_
    ·rw [hJ]; exact ⟨0, by omega, f1', f2, f3, rfl, rfl, rfl, rfl⟩
    clear f1' f2 f3 f17 f18 f19
    intro f m' hrel
    rw [hJ] at hrel
    obtain ⟨k, hk, f1', f2, f3, f35, f36, f37, rfl⟩ := hrel
    cases c2 : decide ((k : Int) < (ns.length : Int)) with
    | true =>
     have hlt : k < ns.length := by simpa using c2
     have g0 := getD_map No.pv ns k hlt
     have hi : IntKind.i64.wrap ((k : Int) + 1) = ((k + 1 : Nat) : Int) := by rw [wrap64 (by omega)]; omega
     have hme : numOf (f 37) = k := by rw [f37]; exact Int.toNat_natCast k
     have hd := hnd ns[k] (List.getElem_mem hlt)
     generalize ns[k] = n at *
     (repeat (first | refine aSeq fun X hX => ?_ | refine aSkip ?_ | (first | apply aReg | apply aIf); simp -implicitDefEqProofs only [↓slp, slb, ↓reduceIte, reduceCtorEq, jA, jB, jE, jF, tfNwL, f3, f35, f36, f37, pI, c2, g0] | apply hX; clear hX X | apply And.intro; focus omega))
     refine callPS (hd _) (by simp only [List.map_cons, List.map_nil, PV.settle, PV.settles, No.settle_pv]; rfl) (fun _ _ h => h) ?_
     rintro v mc ⟨rfl, hmc⟩
     subst hmc
     refine wS aEQ_t ?_
     (repeat (first | refine aReg ?_; simp -implicitDefEqProofs only [↓slp, slb, ↓reduceIte, jA, jF, f37, pI, hi] | apply hX; clear hX X))
     rw [hJ]
     exact ⟨⟨k + 1, hlt, f1', f2, f3, f35, f36, rfl, rfl⟩, by omega⟩
    | false =>
     (repeat revert X); refine wE (And.intro tfNwL (And.intro f1' (And.intro f36 (And.intro f37 (And.intro @pI.eq_1 c2))))) ?_; repeat intro X hX
     obtain ⟨K, hK⟩ : ∃ K : F → M → Prop, ∀ f m', K f m' = (∃ (k : Nat), k ≤ ns.length ∧ f 1 = .ep [.sl .no (E.map En.pv), .sl .no (ns.map No.pv)] ∧ f 2 = .bp m.nb 0 ∧ f 46 = .sl .no (ns.map No.pv) ∧ f 47 = pI ns.length ∧ f 48 = pI k ∧ ms = m') := ⟨_, fun _ _ => rfl⟩
     refine aLoop K (fun f m => ns.length - numOf (f 48)) ?_ ?_
     ·rw [hK]; exact ⟨0, by omega, f1', f2, rfl, rfl, rfl, rfl⟩
     clear f1' f2 f3 f35 f36 f37
     intro f m' hrel
     rw [hK] at hrel
     obtain ⟨k, hk, f1', f2, f46, f47, f48, rfl⟩ := hrel
     cases c3 : decide ((k : Int) < (ns.length : Int)) with
     | true =>
      have hlt : k < ns.length := by simpa using c3
      have g0 := getD_map No.pv ns k hlt
      have hi : IntKind.i64.wrap ((k : Int) + 1) = ((k + 1 : Nat) : Int) := by rw [wrap64 (by omega)]; omega
      have hme : numOf (f 48) = k := by rw [f48]; exact Int.toNat_natCast k
      have hnx := hne ns[k].name
      have hf61 := hf6 ns[k].line ns[k].col
      generalize ns[k] = n at *
      (repeat (first | refine aSeq fun X hX => ?_ | refine aSkip ?_ | (first | apply aReg | apply aIf); simp -implicitDefEqProofs only [↓slp, slb, ↓reduceIte, reduceCtorEq, jA, jB, jE, jF, tfNwL, f46, f47, f48, pI, c3, g0] | apply hX; clear hX X | apply And.intro; focus omega))
      (repeat (refine aDrE ?_; simp -implicitDefEqProofs only [↓slp, slb, ↓reduceIte, reduceCtorEq, jA, jB, jE, jF, tfNwL, f1']))
      refine callM (hnx _) ?_
      rintro v mc ⟨⟨R, rfl⟩, hmc⟩
      subst hmc
      have hcc := hct .no R n.name
      cases hnk : hasS R n.name with
      | false =>
       refine wS tfNwL ?_
       (repeat revert X); refine wD tfNwL ?_; repeat intro X hX
       refine callE (hcc _) ?_
       refine wS (And.intro @pB.eq_1 hnk) ?_
       (repeat (first | refine aSkip ?_ | (first | apply aReg | apply aIf); simp -implicitDefEqProofs only [↓slp, slb, ↓reduceIte, jA, jF, f48, pI, hi] | apply hX; clear hX X))
       rw [hK]
       exact ⟨⟨k + 1, hlt, f1', f2, f46, f47, rfl, rfl⟩, by omega⟩
      | true =>
       refine wS tfNwL ?_
       (repeat revert X); refine wD tfNwL ?_; repeat intro X hX
       refine callE (hcc _) ?_
       refine wS (And.intro @pB.eq_1 hnk) ?_
       (repeat revert X); refine wD (And.intro tfNwL (And.intro f48 @pI.eq_1)) ?_; repeat intro X hX
       exact callP (hf61 _) (fun _ _ h => h) (fun v m' h => h.elim)
     | false =>
      (repeat (first | refine aSeq fun X hX => ?_ | (first | refine aExit ?_ | refine aRet ?_); try simp only [slx, ↓reduceIte, jA, reduceCtorEq] | (first | apply aReg | apply aIf); simp -implicitDefEqProofs only [↓slp, slb, ↓reduceIte, jA, jB, jE, jF, tfNwL, f2, f47, f48, pI, c3, hgs, hup] | apply hX; clear hX X | clear hX X; apply hX; clear hX X))
      exact ⟨.inr trivial, hms⟩
  ·rintro m2 rfl
   rw [hargs]
   refine (nclo_ret _ _).mono ?_
   rintro m3 rfl
   simp only [Tryz.results8, aRes_n, aRes_t, aRes_c]
   refine wS (And.intro tfNwL (And.intro k2 hgs)) ?_
   exact ⟨.inl rfl, hms.symm⟩
  ·rintro v m2 ⟨⟨k, l, c, rfl⟩, rfl⟩
   rw [hargs]
   refine (nclo_pan m.nb _ l c k _ hgs).mono ?_
   rintro m3 rfl
   simp only [Tryz.results8, aRes_n, aRes_t, aRes_c]
   rw [hup]
   have hg3 : (m.ext [some [pA l c k]]).get m.nb = some [pA l c k] := ext_get (i := 0) rfl
   refine wS (And.intro tfNwL (And.intro k2 hg3)) ?_
   first
    | exact .inr ⟨k, l, c, rfl⟩
    | exact ⟨.inr ⟨k, l, c, rfl⟩, rfl⟩
end Go.Proofs.YthhhnfjcaicjnaaGreatDoor
