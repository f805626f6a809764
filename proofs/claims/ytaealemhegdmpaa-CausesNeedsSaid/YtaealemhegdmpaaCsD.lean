/-
 What equations and blocks define, exactly.
-/
-- halved
import Derived.Test.YtaealemhegdmpaaCgA
import Derived.Test.YtaealemhegdmpaaAbNa
set_option linter.unusedVariables false
set_option linter.unusedSimpArgs false
namespace Go.Proofs.Ytaealemhegdmpaa
open Nat renaming reduceEqDiff → jA, reduceAdd → jB, reduceMul → jC, reduceLT → jD, reduceLeDiff → jE, reduceBEq → jF, reduceBNe → jG
open Int renaming reduceLE → jH, reduceLT → jI, reduceToNat → jJ, reduceEq → jK
open Go
-- EXX: Qu.settle_pv, Qu.pure_pv, Qu.cells_pv, Qu.cs, Am.settle_pv, Am.pure_pv, Am.cells_pv, Am.cs, Tr.settle_pv, Tr.pure_pv, Tr.cells_pv, Tr.cs
set_option maxRecDepth 20000
-- TNAMES: int; uint8; int32; string; bool; []string; []api.Expr; api.Expr; api.Pos; api.Type; api.On; []api.On; api.Var; []api.Var; api.Equation; []api.Equation; api.Block; api.Trans; []api.Trans; api.Arm; []api.Arm
set_option linter.defProp false
def Y1 := And.intro @slb (And.intro @tfA (And.intro @Ex.settle_pv (And.intro @Ex.pure_pv (And.intro @Ex.cells_pv (And.intro @Ex.cs.eq_1 (And.intro @On.pv.eq_1 (And.intro @Ty.pv.eq_1 (And.intro @Va.settle_pv (And.intro @Va.pure_pv (And.intro @Va.cells_pv (And.intro @Va.cs.eq_1 (And.intro @Qu.settle_pv (And.intro @Qu.pure_pv (And.intro @Qu.cells_pv (And.intro @Qu.cs.eq_1 (And.intro @Am.settle_pv (And.intro @Am.pure_pv (And.intro @Am.cells_pv (And.intro @Am.cs.eq_1 (And.intro @Tr.settle_pv (And.intro @Tr.pure_pv (And.intro @Tr.cells_pv @Tr.cs.eq_1))))))))))))))))))))))

def addL (l r : List Str) : List Str := r.foldl addS l
theorem addL_take {l r : List Str} {j : Nat} (h : j < r.length) : addL l (r.take (j + 1)) = addS (addL l (r.take j)) r[j] := by
 unfold addL; rw [List.take_succ_eq_append_getElem h, List.foldl_append]; rfl
/-- Names that are none of some variables, each once. -/
def addV1 (V : List Va) (l : List Str) (s : Str) : List Str := if findVar V s < 0 then addS l s else l
def addV (V : List Va) (l r : List Str) : List Str := r.foldl (addV1 V) l
theorem addV_take {V : List Va} {l r : List Str} {j : Nat} (h : j < r.length) : addV V l (r.take (j + 1)) = addV1 V (addV V l (r.take j)) r[j] := by
 unfold addV; rw [List.take_succ_eq_append_getElem h, List.foldl_append]; rfl
abbrev DfT := List Va → List Qu → List Str
def dfA (df : DfT) (l : List Str) (ar : List Am) : List Str := ar.foldl (fun l a => addL l (df a.vars a.eqs)) l
theorem dfA_take {df : DfT} {l : List Str} {r : List Am} {j : Nat} (h : j < r.length) : dfA df l (r.take (j + 1)) = addL (dfA df l (r.take j)) (df r[j].vars r[j].eqs) := by
 unfold dfA; rw [List.take_succ_eq_append_getElem h, List.foldl_append]; rfl
def dfQ (df : DfT) (q : Qu) : List Str := dfA df q.lhs q.arms
def dfBl (df : DfT) (V : List Va) (Q : List Qu) : List Str := Q.foldl (fun l q => addV V l (dfQ df q)) []
theorem dfBl_take {df : DfT} {V : List Va} {Q : List Qu} {k : Nat} (h : k < Q.length) : dfBl df V (Q.take (k + 1)) = addV V (dfBl df V (Q.take k)) (dfQ df Q[k]) := by
 unfold dfBl; rw [List.take_succ_eq_append_getElem h, List.foldl_append]; rfl
def dfF : Nat → DfT
 | 0 => dfBl (fun _ _ => [])
 | d + 1 => dfBl (dfF d)
/-- What an equation defines lies in a list. -/
def DfQ (PD : List Va → List Qu → List Str → Prop) (q : Qu) (T : List Str) : Prop := q.lhs.length ≤ 100 ∧ (∀ x ∈ q.lhs, x ∈ T) ∧ ∀ a ∈ q.arms, PD a.vars a.eqs T
def DfB : Nat → List Va → List Qu → List Str → Prop
 | 0, V, Q, T => ∀ q ∈ Q, ∃ Tq, Tq.length ≤ 100 ∧ (∀ x ∈ Tq, x ∈ T ∨ x ∈ V.map Va.name) ∧ DfQ (fun _ _ _ => False) q Tq
 | d + 1, V, Q, T => ∀ q ∈ Q, ∃ Tq, Tq.length ≤ 100 ∧ (∀ x ∈ Tq, x ∈ T ∨ x ∈ V.map Va.name) ∧ DfQ (DfB d) q Tq
theorem nd_lenS : ∀ (l T : List Str), l.Nodup → (∀ s ∈ l, s ∈ T) → l.length ≤ T.length
 | [], T, _, _ => Nat.zero_le _
 | a :: l, T, h, hs => by
  rw [List.nodup_cons] at h
  have ha := hs a (List.mem_cons_self ..)
  obtain ⟨p, q, rfl⟩ := List.append_of_mem ha
  have := nd_lenS l (p ++ q) h.2 (fun s hsl => by
   have h1 := hs s (List.mem_cons_of_mem _ hsl)
   have hne : s ≠ a := fun e => h.1 (e ▸ hsl)
   simp only [List.mem_append, List.mem_cons] at h1 ⊢
   rcases h1 with h1 | h1 | h1
   ·exact .inl h1
   ·exact absurd h1 hne
   ·exact .inr h1)
  simp only [List.length_cons, List.length_append] at this ⊢
  omega
/-- What is defined: it lies in a list, and is short. -/
def DQC (df : DfT) (q : Qu) (T : List Str) : Prop := (∀ x ∈ dfQ df q, x ∈ T) ∧ ∀ m : M, ACalls Try.prog 70 [q.pv] m (fun v m' => v = .sl .no ((dfQ df q).map pS) ∧ m' = m)
def DBC (df : DfT) (V : List Va) (Q : List Qu) (T : List Str) : Prop := ((∀ x ∈ df V Q, x ∈ T) ∧ (df V Q).length ≤ 100) ∧ ∀ m : M, ACalls Try.prog 79 [.ag [.sl .no (V.map Va.pv), .sl .no (Q.map Qu.pv)]] m (fun v m' => v = .sl .no ((df V Q).map pS) ∧ m' = m)
/-- An added name is there, or is one more. -/
structure Grow (L T l : List Str) : Prop where
 ex : ∃ r, l = L ++ r ∧ r.Nodup ∧ ∀ x ∈ r, x ∈ T
theorem Grow.nil (L T : List Str) : Grow L T L := ⟨[], by simp, List.nodup_nil, fun x h => by simp at h⟩
theorem Grow.add {L T l : List Str} {s : Str} (h : Grow L T l) (hs : s ∈ T) : Grow L T (addS l s) := by
 obtain ⟨r, rfl, h2, h3⟩ := h
 unfold addS
 cases c : hasS (L ++ r) s with
 | true => rw [if_pos rfl]; exact ⟨r, rfl, h2, h3⟩
 | false =>
  rw [if_neg (by simp)]
  refine ⟨r ++ [s], by simp, ?_, fun x hx => ?_⟩
  ·rw [List.nodup_append]
   refine ⟨h2, by simp, fun a ha b hb => ?_⟩
   rw [List.mem_singleton] at hb
   subst hb
   rintro rfl
   rw [(hasS_iff a (L ++ r)).2 (List.mem_append_right _ ha)] at c
   cases c
  ·rcases List.mem_append.1 hx with hx | hx
   ·exact h3 x hx
   ·rw [List.mem_singleton] at hx; subst hx; exact hs
theorem Grow.len {L T l : List Str} (h : Grow L T l) : l.length ≤ L.length + T.length := by
 obtain ⟨r, rfl, h2, h3⟩ := h
 have := nd_lenS r T h2 h3
 simp; omega
theorem Grow.mem {L T l : List Str} (h : Grow L T l) (hL : ∀ x ∈ L, x ∈ T) : ∀ x ∈ l, x ∈ T := by
 obtain ⟨r, rfl, h2, h3⟩ := h
 intro x hx
 rcases List.mem_append.1 hx with hx | hx
 ·exact hL x hx
 ·exact h3 x hx
theorem Grow.addL {L T : List Str} : ∀ {r l : List Str}, Grow L T l → (∀ x ∈ r, x ∈ T) → Grow L T (addL l r)
 | [], l, h, _ => h
 | s :: r, l, h, hr => Grow.addL (r := r) (h.add (hr s (List.mem_cons_self ..))) (fun x hx => hr x (List.mem_cons_of_mem _ hx))
theorem Grow.addV {L T : List Str} {V : List Va} : ∀ {r l : List Str}, Grow L T l → (∀ x ∈ r, findVar V x < 0 → x ∈ T) → Grow L T (addV V l r)
 | [], l, h, _ => h
 | s :: r, l, h, hr => Grow.addV (r := r) (l := addV1 V l s) (by
     unfold addV1
     split
     ·rename_i hv; exact h.add (hr s (List.mem_cons_self ..) hv)
     ·exact h) (fun x hx => hr x (List.mem_cons_of_mem _ hx))
theorem Grow.dfA {L T : List Str} {df : DfT} : ∀ {ar : List Am} {l : List Str}, Grow L T l → (∀ a ∈ ar, ∀ x ∈ df a.vars a.eqs, x ∈ T) → Grow L T (dfA df l ar)
 | [], l, h, _ => h
 | a :: r, l, h, hr => Grow.dfA (ar := r) (h.addL (hr a (List.mem_cons_self ..))) (fun x hx => hr x (List.mem_cons_of_mem _ hx))
set_option maxHeartbeats 4000000 in
theorem defines_step {df : DfT} {PD : List Va → List Qu → List Str → Prop} (hPD : ∀ V Q T, PD V Q T → T.length ≤ 100 → DBC df V Q T) (q : Qu) (T : List Str) (hT : T.length ≤ 100) (hq : DfQ PD q T) : DQC df q T := by
 obtain ⟨hl, hlT, ha⟩ := hq
 have hG : ∀ k, Grow q.lhs T (dfA df q.lhs (q.arms.take k)) := fun k => (Grow.nil _ _).dfA (fun a hak => (hPD _ _ _ (ha a (List.mem_of_mem_take hak)) hT).1.1)
 refine ⟨?_, fun m => ?_⟩
 ·have := (hG q.arms.length).mem hlT
  rwa [List.take_length] at this
 obtain ⟨d, hd, hd1, hd2⟩ : ∃ d : TD, tdat Try.prog 9 = some d ∧ d.sz = 1 ∧ d.by_ ≤ 100 := ⟨(tdat Try.prog 9).get (by kernel_rfl), (Option.some_get _).symm, by kernel_rfl, of_decide_eq_true (by kernel_rfl)⟩
 have hcn := clone_78 .no (q.lhs.map pS) m d hd (by rw [hd1]; exact strs_one q.lhs) (by simp; unfold maxLen; omega) (by simp; have := Nat.mul_le_mul hl hd2; omega)
 rw [hd1] at hcn
 refine ACalls.enter (mu := []) ok_mix Try.func70 rfl (by kernel_rfl) (by kernel_rfl) (by simp only [List.length_cons, List.length_nil, Try.ntmps70]; omega) ?_
 (repeat (first | refine aSeq fun X hX => ?_ | refine aReg ?_; simp -implicitDefEqProofs only [↓slp, ↓reduceIte, reduceCtorEq, jA, jB, jE, Y1] | apply hX; clear hX X))
 refine callM hcn ?_
 rintro v mc ⟨rfl, rfl⟩
 simp -implicitDefEqProofs only [↓slp, slb, ↓reduceIte]
 (repeat (first | refine aSeq fun X hX => ?_ | refine aBlk ?_ | refine aReg ?_; simp -implicitDefEqProofs only [↓slp, ↓reduceIte, reduceCtorEq, jA, jB, jE, Y1] | apply hX; clear hX X | intro hlen; unfold maxLen at hlen))
 have t1 : Toks m (m.fresh 1) := (Toks.refl m).use (o := .full) (s := 1) (s' := 1) .full
 have m1 : Mine m (m.fresh 1) (.tok m.nt) 1 := Mine.new (o := .full) (Toks.refl m) 1
 obtain ⟨I, hI⟩ : ∃ I : F → M → Prop, ∀ f m', I f m' = (∃ (k : Nat) (o : Own), k ≤ q.arms.length ∧ f 3 = .sl o ((dfA df q.lhs (q.arms.take k)).map pS) ∧ f 12 = .sl .no (q.arms.map Am.pv) ∧ f 13 = pI q.arms.length ∧ f 14 = pI k ∧ Toks m m' ∧ Mine m m' o 1) := ⟨_, fun _ _ => rfl⟩
 refine aLoop I (fun f m => q.arms.length - numOf (f 14)) ?_ ?_
 ·rw [hI]; exact ⟨0, .tok m.nt, by omega, rfl, rfl, rfl, rfl, t1, m1⟩
 clear t1 m1
 intro f m' hrel
 rw [hI] at hrel
 obtain ⟨k, o, hk, f3, f12, f13, f14, htk, hmi⟩ := hrel
 have hg := hG k
 have hlen2 := hg.len
 cases c1 : decide ((k : Int) < (q.arms.length : Int)) with
 | false =>
  obtain rfl : k = q.arms.length := by simp at c1; omega
  rw [List.take_length] at f3
  (repeat (first | refine aSeq fun X hX => ?_ | (first | refine aExit ?_ | refine aRet ?_); try simp only [slx, ↓reduceIte, jA, reduceCtorEq] | (first | apply aReg | apply aIf); simp -implicitDefEqProofs only [↓slp, slb, ↓reduceIte, jA, f3, f13, f14, pI, c1] | apply hX; clear hX X | clear hX X; apply hX; clear hX X))
  simp only [aPost, Try.results70, aRes_n, aRes_t, aRes_c, pack_one, pack_two]
  simp -implicitDefEqProofs only [slb, ↓reduceIte]
  exact leave_toks0 htk rfl ⟨rfl, rfl⟩
 | true =>
  have hlt : k < q.arms.length := by simpa using c1
  have g0 := getD_map Am.pv q.arms k hlt
  have hi : IntKind.i64.wrap ((k : Int) + 1) = ((k + 1 : Nat) : Int) := by rw [wrap64 (by omega)]; omega
  have hme : numOf (f 14) = k := by rw [f14]; exact Int.toNat_natCast k
  have hb := hPD _ _ _ (ha q.arms[k] (List.getElem_mem hlt)) hT
  have hnx := dfA_take (df := df) (l := q.lhs) hlt
  have hb1 := hb.2 m'
  have hb2 := hb.1
  generalize hr0 : df q.arms[k].vars q.arms[k].eqs = r at *
  generalize hA0 : dfA df q.lhs (q.arms.take k) = A at *
  (repeat (first | refine aSeq fun X hX => ?_ | refine aSkip ?_ | (first | apply aReg | apply aIf); simp -implicitDefEqProofs only [↓slp, ↓reduceIte, reduceCtorEq, jA, jB, jE, jF, Y1, f12, f13, f14, pI, c1, g0] | apply hX; clear hX X | apply And.intro; focus omega))
  refine callM hb1 ?_
  rintro v mc ⟨rfl, rfl⟩
  simp -implicitDefEqProofs only [↓slp, ↓reduceIte, Y1]
  (repeat (first | refine aBlk ?_ | apply hX; clear hX X | intro hlen; unfold maxLen at hlen))
  obtain ⟨J, hJ⟩ : ∃ J : F → M → Prop, ∀ f m', J f m' = (∃ (j : Nat) (o : Own), j ≤ r.length ∧ f 3 = .sl o ((addL A (r.take j)).map pS) ∧ f 12 = .sl .no (q.arms.map Am.pv) ∧ f 13 = pI q.arms.length ∧ f 14 = pI k ∧ f 20 = .sl .no (r.map pS) ∧ f 21 = pI r.length ∧ f 22 = pI j ∧ Toks m m' ∧ Mine m m' o 1) := ⟨_, fun _ _ => rfl⟩
  refine aLoop J (fun f m => r.length - numOf (f 22)) ?_ ?_
  ·rw [hJ]; exact ⟨0, o, by omega, f3, f12, f13, f14, rfl, rfl, rfl, htk, hmi⟩
  clear f3 f12 f13 f14 htk hmi hb1
  intro f m' hrel
  rw [hJ] at hrel
  obtain ⟨j, o, hj, f3, f12, f13, f14, f20, f21, f22, htk, hmi⟩ := hrel
  cases c2 : decide ((j : Int) < (r.length : Int)) with
  | true =>
   have hltj : j < r.length := by simpa using c2
   have gj := getD_map pS r j hltj
   have hij : IntKind.i64.wrap ((j : Int) + 1) = ((j + 1 : Nat) : Int) := by rw [wrap64 (by omega)]; omega
   have hmej : numOf (f 22) = j := by rw [f22]; exact Int.toNat_natCast j
   have hlen3 := (hg.addL (r := r.take j) (fun x hx => hb2.1 x (List.mem_of_mem_take hx))).len
   (repeat (first | refine aSeq fun X hX => ?_ | refine aSkip ?_ | (first | apply aReg | apply aIf); simp -implicitDefEqProofs only [↓slp, ↓reduceIte, reduceCtorEq, jA, jB, Y1, f3, f20, f21, f22, pI, pS, c2, gj] | apply hX; clear hX X | apply And.intro; focus omega))
   refine callM (add_any o (addL A (r.take j)) r[j] m' hmi.free (by omega)) ?_
   rintro v mc ⟨rfl, rfl⟩
   simp -implicitDefEqProofs only [↓slp, slb, ↓reduceIte]
   (repeat (first | refine aReg ?_; simp -implicitDefEqProofs only [↓slp, slb, ↓reduceIte, jA, f22, pI, hij] | apply hX; clear hX X))
   rw [hJ]
   exact ⟨⟨j + 1, .tok m'.nt, hltj, by rw [addL_take hltj]; rfl, f12, f13, f14, f20, f21, rfl, htk.use hmi, Mine.new htk o 1⟩, by omega⟩
  | false =>
   obtain rfl : j = r.length := by simp at c2; omega
   rw [List.take_length] at f3
   (repeat (first | refine aSeq fun X hX => ?_ | refine aExit ?_; try simp only [slx, ↓reduceIte, jA, reduceCtorEq] | (first | apply aReg | apply aIf); simp -implicitDefEqProofs only [↓slp, slb, ↓reduceIte, jA, f14, hi, f21, f22, pI, c2] | apply hX; clear hX X | clear hX X; apply hX; clear hX X))
   rw [hI]
   exact ⟨⟨k + 1, o, hlt, by rw [hnx]; exact f3, f12, f13, rfl, htk, hmi⟩, by omega⟩
theorem Grow.dfBl {df : DfT} {V : List Va} {T : List Str} : ∀ {Q : List Qu} {l : List Str}, Grow [] T l → (∀ q ∈ Q, ∀ x ∈ dfQ df q, x ∈ T ∨ x ∈ V.map Va.name) → Grow [] T (Q.foldl (fun l q => Go.Proofs.Ytaealemhegdmpaa.addV V l (dfQ df q)) l)
 | [], l, h, _ => h
 | q :: r, l, h, hr => Grow.dfBl (Q := r) (h.addV (fun x hx hv => by
     rcases hr q (List.mem_cons_self ..) x hx with h1 | h1
     ·exact h1
     ·obtain ⟨v, hv1, he⟩ := List.mem_map.1 h1
      rcases findVar_spec V x with ⟨_, h2⟩ | ⟨i, _, h2, _⟩
      ·exact absurd he (h2 v hv1)
      ·rw [h2] at hv; omega)) (fun q hq => hr q (List.mem_cons_of_mem _ hq))
set_option maxHeartbeats 4000000 in
theorem bdefines_step {df : DfT} {PD : List Va → List Qu → List Str → Prop} (hPD : ∀ V Q T, PD V Q T → T.length ≤ 100 → DBC df V Q T) (V : List Va) (Q : List Qu) (T : List Str) (hT : T.length ≤ 100) (hQ : ∀ q ∈ Q, ∃ Tq, Tq.length ≤ 100 ∧ (∀ x ∈ Tq, x ∈ T ∨ x ∈ V.map Va.name) ∧ DfQ PD q Tq) : DBC (dfBl df) V Q T := by
 have hdq : ∀ q ∈ Q, (∀ x ∈ dfQ df q, x ∈ T ∨ x ∈ V.map Va.name) ∧ ∃ Tq, Tq.length ≤ 100 ∧ DfQ PD q Tq := fun q hq => by
  obtain ⟨Tq, h1, h2, h3⟩ := hQ q hq
  exact ⟨fun x hx => h2 x ((defines_step hPD q Tq h1 h3).1 x hx), Tq, h1, h3⟩
 have hG : ∀ k, Grow [] T (dfBl df V (Q.take k)) := fun k => Grow.dfBl (.nil [] T) (fun q hq => (hdq q (List.mem_of_mem_take hq)).1)
 refine ⟨⟨?_, ?_⟩, fun m => ?_⟩
 ·have := (hG Q.length).mem (fun x hx => by simp at hx)
  rwa [List.take_length] at this
 ·have := (hG Q.length).len
  rw [List.take_length] at this
  simp at this; omega
 refine ACalls.enter (mu := []) ok_mix Try.func79 rfl (by kernel_rfl) (by kernel_rfl) (by simp only [List.length_cons, List.length_nil, Try.ntmps79]; omega) ?_
 (repeat (first | refine aSeq fun X hX => ?_ | refine aBlk ?_ | refine aReg ?_; simp -implicitDefEqProofs only [↓slp, ↓reduceIte, reduceCtorEq, jA, jB, jE, Y1] | apply hX; clear hX X | intro hlen; unfold maxLen at hlen))
 obtain ⟨I, hI⟩ : ∃ I : F → M → Prop, ∀ f m', I f m' = (∃ (k : Nat) (o : Own), k ≤ Q.length ∧ f 1 = .ep [.sl .no (V.map Va.pv), .sl .no (Q.map Qu.pv)] ∧ f 3 = .sl o ((dfBl df V (Q.take k)).map pS) ∧ f 9 = .sl .no (Q.map Qu.pv) ∧ f 10 = pI Q.length ∧ f 11 = pI k ∧ Toks m m' ∧ Mine m m' o 1) := ⟨_, fun _ _ => rfl⟩
 refine aLoop I (fun f m => Q.length - numOf (f 11)) ?_ ?_
 ·rw [hI]; exact ⟨0, .full, by omega, rfl, rfl, rfl, rfl, rfl, .refl _, .full⟩
 intro f m' hrel
 rw [hI] at hrel
 obtain ⟨k, o, hk, f1, f3, f9, f10, f11, htk, hmi⟩ := hrel
 have hg := hG k
 cases c1 : decide ((k : Int) < (Q.length : Int)) with
 | false =>
  obtain rfl : k = Q.length := by simp at c1; omega
  rw [List.take_length] at f3
  (repeat (first | refine aSeq fun X hX => ?_ | (first | refine aExit ?_ | refine aRet ?_); try simp only [slx, ↓reduceIte, jA, reduceCtorEq] | (first | apply aReg | apply aIf); simp -implicitDefEqProofs only [↓slp, slb, ↓reduceIte, jA, f3, f10, f11, pI, c1] | apply hX; clear hX X | clear hX X; apply hX; clear hX X))
  simp only [aPost, Try.results79, aRes_n, aRes_t, aRes_c, pack_one, pack_two]
  simp -implicitDefEqProofs only [slb, ↓reduceIte]
  exact leave_toks0 htk rfl ⟨rfl, rfl⟩
 | true =>
  have hlt : k < Q.length := by simpa using c1
  have g0 := getD_map Qu.pv Q k hlt
  have hi : IntKind.i64.wrap ((k : Int) + 1) = ((k + 1 : Nat) : Int) := by rw [wrap64 (by omega)]; omega
  have hme : numOf (f 11) = k := by rw [f11]; exact Int.toNat_natCast k
  obtain ⟨hrT, Tq, hTq, hdfq⟩ := hdq Q[k] (List.getElem_mem hlt)
  have hb := (defines_step hPD Q[k] Tq hTq hdfq).2 m'
  have hrl : (dfQ df Q[k]).length ≤ 200 := by
   have := ((Grow.nil Q[k].lhs Tq).dfA (df := df) (ar := Q[k].arms) (fun a ha => (hPD _ _ _ (hdfq.2.2 a ha) hTq).1.1)).len
   have h2 := hdfq.1
   show (dfA df Q[k].lhs Q[k].arms).length ≤ 200
   omega
  have hnx := dfBl_take (df := df) (V := V) hlt
  rw [Qu.pv_eq] at hb
  generalize hr0 : dfQ df Q[k] = r at *
  generalize hA0 : dfBl df V (Q.take k) = A at *
  (repeat (first | refine aSeq fun X hX => ?_ | refine aSkip ?_ | (first | apply aReg | apply aIf); simp -implicitDefEqProofs only [↓slp, ↓reduceIte, reduceCtorEq, jA, jB, jE, jF, Y1, f9, f10, f11, pI, c1, g0] | apply hX; clear hX X | apply And.intro; focus omega))
  refine callM hb ?_
  rintro v mc ⟨rfl, rfl⟩
  simp -implicitDefEqProofs only [↓slp, ↓reduceIte, Y1]
  (repeat (first | refine aBlk ?_ | apply hX; clear hX X | intro hlen; unfold maxLen at hlen))
  obtain ⟨J, hJ⟩ : ∃ J : F → M → Prop, ∀ f m', J f m' = (∃ (j : Nat) (o : Own), j ≤ r.length ∧ f 1 = .ep [.sl .no (V.map Va.pv), .sl .no (Q.map Qu.pv)] ∧ f 3 = .sl o ((addV V A (r.take j)).map pS) ∧ f 9 = .sl .no (Q.map Qu.pv) ∧ f 10 = pI Q.length ∧ f 11 = pI k ∧ f 16 = .sl .no (r.map pS) ∧ f 17 = pI r.length ∧ f 18 = pI j ∧ Toks m m' ∧ Mine m m' o 1) := ⟨_, fun _ _ => rfl⟩
  refine aLoop J (fun f m => r.length - numOf (f 18)) ?_ ?_
  ·rw [hJ]; exact ⟨0, o, by omega, f1, f3, f9, f10, f11, rfl, rfl, rfl, htk, hmi⟩
  clear f1 f3 f9 f10 f11 htk hmi hb
  intro f m' hrel
  rw [hJ] at hrel
  obtain ⟨j, o, hj, f1, f3, f9, f10, f11, f16, f17, f18, htk, hmi⟩ := hrel
  cases c2 : decide ((j : Int) < (r.length : Int)) with
  | true =>
   have hltj : j < r.length := by simpa using c2
   have gj := getD_map pS r j hltj
   have hij : IntKind.i64.wrap ((j : Int) + 1) = ((j + 1 : Nat) : Int) := by rw [wrap64 (by omega)]; omega
   have hmej : numOf (f 18) = j := by rw [f18]; exact Int.toNat_natCast j
   have hvT : ∀ x ∈ r, findVar V x < 0 → x ∈ T := fun x hx hv => by
    rcases hrT x hx with h1 | h1
    ·exact h1
    ·obtain ⟨v, hv1, he⟩ := List.mem_map.1 h1
     rcases findVar_spec V x with ⟨_, h2⟩ | ⟨i, _, h2, _⟩
     ·exact absurd he (h2 v hv1)
     ·rw [h2] at hv; omega
   have hlen3 := (hg.addV (r := r.take j) (fun x hx => hvT x (List.mem_of_mem_take hx))).len
   simp only [List.length_nil] at hlen3
   have hstp := addV_take (V := V) (l := A) hltj
   (repeat (first | refine aSeq fun X hX => ?_ | refine aSkip ?_ | (first | apply aReg | apply aIf); simp -implicitDefEqProofs only [↓slp, ↓reduceIte, reduceCtorEq, jA, jB, jE, Y1, f1, f16, f17, f18, pI, pS, c2, gj] | apply hX; clear hX X | apply And.intro; focus omega))
   refine callE (findVar_any _ V r[j] _) ?_
   rcases findVar_spec V r[j] with ⟨h1, h2⟩ | ⟨i, hiV, h1, h2, _⟩
   ·have c3 : decide ((-1 : Int) < 0) = true := rfl
    have hs1 : addV1 V (addV V A (r.take j)) r[j] = addS (addV V A (r.take j)) r[j] := by unfold addV1; rw [if_pos (by rw [h1]; omega)]
    rw [h1]
    simp -implicitDefEqProofs only [↓slp, slb, ↓reduceIte, jI, pI]
    (repeat (first | (first | apply aReg | apply aIf); simp -implicitDefEqProofs only [↓slp, slb, ↓reduceIte, reduceCtorEq, jA, f3] | apply hX; clear hX X))
    refine callM (add_any o (addV V A (r.take j)) r[j] m' hmi.free (by omega)) ?_
    rintro v mc ⟨rfl, rfl⟩
    simp -implicitDefEqProofs only [↓slp, slb, ↓reduceIte]
    (repeat (first | refine aReg ?_; simp -implicitDefEqProofs only [↓slp, slb, ↓reduceIte, jA, f18, pI, hij] | apply hX; clear hX X))
    rw [hJ]
    exact ⟨⟨j + 1, .tok m'.nt, hltj, f1, by rw [hstp, hs1]; rfl, f9, f10, f11, f16, f17, rfl, htk.use hmi, Mine.new htk o 1⟩, by omega⟩
   ·have c3 : decide (((i : Nat) : Int) < 0) = false := by simp
    have hs1 : addV1 V (addV V A (r.take j)) r[j] = addV V A (r.take j) := by unfold addV1; rw [if_neg (by rw [h1]; omega)]
    rw [h1]
    simp -implicitDefEqProofs only [↓slp, slb, ↓reduceIte, pI, c3]
    (repeat (first | refine aSkip ?_ | (first | apply aReg | apply aIf); simp -implicitDefEqProofs only [↓slp, slb, ↓reduceIte, jA, f18, pI, hij] | apply hX; clear hX X))
    rw [hJ]
    exact ⟨⟨j + 1, o, hltj, f1, by rw [hstp, hs1]; exact f3, f9, f10, f11, f16, f17, rfl, htk, hmi⟩, by omega⟩
  | false =>
   obtain rfl : j = r.length := by simp at c2; omega
   rw [List.take_length] at f3
   (repeat (first | refine aSeq fun X hX => ?_ | refine aExit ?_; try simp only [slx, ↓reduceIte, jA, reduceCtorEq] | (first | apply aReg | apply aIf); simp -implicitDefEqProofs only [↓slp, slb, ↓reduceIte, jA, f11, hi, f17, f18, pI, c2] | apply hX; clear hX X | clear hX X; apply hX; clear hX X))
   rw [hI]
   exact ⟨⟨k + 1, o, hlt, f1, by rw [hnx]; exact f3, f9, f10, rfl, htk, hmi⟩, by omega⟩
theorem bdefines_any : ∀ (d : Nat) (V : List Va) (Q : List Qu) (T : List Str), DfB d V Q T → T.length ≤ 100 → DBC (dfF d) V Q T
 | 0, V, Q, T, h, hT => bdefines_step (df := fun _ _ => []) (PD := fun _ _ _ => False) (fun V Q T h _ => h.elim) V Q T hT h
 | d + 1, V, Q, T, h, hT => bdefines_step (df := dfF d) (PD := DfB d) (fun V Q T h hT => bdefines_any d V Q T h hT) V Q T hT h
end Go.Proofs.Ytaealemhegdmpaa
