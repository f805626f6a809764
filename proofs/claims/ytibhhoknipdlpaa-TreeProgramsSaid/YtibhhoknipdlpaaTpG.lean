/-
 What equations and blocks define, exactly.
-/
-- halved
import Derived.Test.YtibhhoknipdlpaaNW
import Derived.Test.YtibhhoknipdlpaaTpA
import Derived.Test.YtibhhoknipdlpaaDA
import Derived.Test.YtibhhoknipdlpaaNvA
set_option linter.unusedVariables false
set_option linter.unusedSimpArgs false
namespace Go.Proofs.Ytibhhoknipdlpaa
open Nat renaming reduceEqDiff → jA, reduceAdd → jB, reduceMul → jC, reduceLT → jD, reduceLeDiff → jE, reduceBEq → jF, reduceBNe → jG
open Int renaming reduceLE → jH, reduceLT → jI, reduceToNat → jJ, reduceEq → jK
open Go
-- EXX: Qu.settle_pv, Qu.pure_pv, Qu.cells_pv, Qu.cs, Am.settle_pv, Am.pure_pv, Am.cells_pv, Am.cs, Tr.settle_pv, Tr.pure_pv, Tr.cells_pv, Tr.cs
set_option maxRecDepth 20000
-- TNAMES: int; uint8; int32; string; bool; []string; []api.Expr; api.Expr; api.Pos; api.Type; api.On; []api.On; api.Var; []api.Var; api.Equation; []api.Equation; api.Block; api.Trans; []api.Trans; api.Arm; []api.Arm
set_option linter.defProp false
def Ym := And.intro @slb (And.intro @tfA (And.intro @Ex.settle_pv (And.intro @Ex.pure_pv (And.intro @Ex.cells_pv (And.intro @Ex.cs.eq_1 (And.intro @On.pv.eq_1 (And.intro @Ty.pv.eq_1 (And.intro @Va.settle_pv (And.intro @Va.pure_pv (And.intro @Va.cells_pv (And.intro @Va.cs.eq_1 (And.intro @Qu.settle_pv (And.intro @Qu.pure_pv (And.intro @Qu.cells_pv (And.intro @Qu.cs.eq_1 (And.intro @Am.settle_pv (And.intro @Am.pure_pv (And.intro @Am.cells_pv (And.intro @Am.cs.eq_1 (And.intro @Tr.settle_pv (And.intro @Tr.pure_pv (And.intro @Tr.cells_pv @Tr.cs.eq_1))))))))))))))))))))))

def addL (l r : List Str) : List Str := r.foldl addS l
theorem addL_take {l r : List Str} {j : Nat} (h : j < r.length) : addL l (r.take (j + 1)) = addS (addL l (r.take j)) r[j] := by
 unfold addL; rw [List.take_succ_eq_append_getElem h, List.foldl_append]; rfl
/-- Names that are none of some variables, each once. -/
def addV1 (V : List Va) (l : List Str) (s : Str) : List Str := if findVar V s < 0 then addS l s else l
def addV (V : List Va) (l r : List Str) : List Str := r.foldl (addV1 V) l
theorem addV_take {V : List Va} {l r : List Str} {j : Nat} (h : j < r.length) : addV V l (r.take (j + 1)) = addV1 V (addV V l (r.take j)) r[j] := by
 unfold addV; rw [List.take_succ_eq_append_getElem h, List.foldl_append]; rfl
abbrev DfT := List Va → List Qu → List Str
def dfA (df : DfT) (l : List Str) (ar : List Am) : List Str := ar.foldl (fun l a => addL l (df a.vars a.eqs)) l
theorem dfA_take {df : DfT} {l : List Str} {r : List Am} {j : Nat} (h : j < r.length) : dfA df l (r.take (j + 1)) = addL (dfA df l (r.take j)) (df r[j].vars r[j].eqs) := by
 unfold dfA; rw [List.take_succ_eq_append_getElem h, List.foldl_append]; rfl
def dfQ (df : DfT) (q : Qu) : List Str := dfA df q.lhs q.arms
def dfBl (df : DfT) (V : List Va) (Q : List Qu) : List Str := Q.foldl (fun l q => addV V l (dfQ df q)) []
theorem dfBl_take {df : DfT} {V : List Va} {Q : List Qu} {k : Nat} (h : k < Q.length) : dfBl df V (Q.take (k + 1)) = addV V (dfBl df V (Q.take k)) (dfQ df Q[k]) := by
 unfold dfBl; rw [List.take_succ_eq_append_getElem h, List.foldl_append]; rfl
def dfF : Nat → DfT
 | 0 => dfBl (fun _ _ => [])
 | d + 1 => dfBl (dfF d)
theorem addS_lenT (l : List Str) (s : Str) : (addS l s).length ≤ l.length + 1 := by unfold addS; split <;> simp
theorem addL_len : ∀ (r l : List Str), (addL l r).length ≤ l.length + r.length
 | [], l => Nat.le_refl _
 | s :: r, l => by
  have := addL_len r (addS l s)
  have := addS_lenT l s
  show (addL (addS l s) r).length ≤ _
  rw [List.length_cons]; omega
theorem addV_len (V : List Va) : ∀ (r l : List Str), (addV V l r).length ≤ l.length + r.length
 | [], l => Nat.le_refl _
 | s :: r, l => by
  have := addV_len V r (addV1 V l s)
  have h2 : (addV1 V l s).length ≤ l.length + 1 := by unfold addV1; split <;> first | exact addS_lenT l s | omega
  show (addV V (addV1 V l s) r).length ≤ _
  rw [List.length_cons]; omega
theorem dfA_len {df : DfT} {wb : WbT} : ∀ (ar : List Am) (l : List Str), (∀ a ∈ ar, (df a.vars a.eqs).length ≤ wb a.vars a.eqs) → (dfA df l ar).length ≤ l.length + (ar.map (wtA wb)).sum
 | [], l, _ => Nat.le_refl _
 | a :: r, l, h => by
  have h1 := dfA_len r (addL l (df a.vars a.eqs)) (fun x hx => h x (List.mem_cons_of_mem _ hx))
  have h2 := addL_len (df a.vars a.eqs) l
  have h3 := h a (List.mem_cons_self ..)
  show (dfA df (addL l (df a.vars a.eqs)) r).length ≤ _
  rw [List.map_cons, List.sum_cons]
  have : wb a.vars a.eqs ≤ wtA wb a := by unfold wtA; omega
  omega
theorem dfQ_len {df : DfT} {wb : WbT} (q : Qu) (h : ∀ a ∈ q.arms, (df a.vars a.eqs).length ≤ wb a.vars a.eqs) : (dfQ df q).length ≤ wtQ wb q := by
 have := dfA_len (df := df) (wb := wb) q.arms q.lhs h
 unfold dfQ wtQ; omega
theorem dfAk_len {df : DfT} {wb : WbT} (q : Qu) (k : Nat) (h : ∀ a ∈ q.arms, (df a.vars a.eqs).length ≤ wb a.vars a.eqs) : (dfA df q.lhs (q.arms.take k)).length ≤ wtQ wb q := by
 have := dfA_len (df := df) (wb := wb) (q.arms.take k) q.lhs (fun a ha => h a (List.mem_of_mem_take ha))
 have := sum_take (wtA wb) q.arms k
 unfold wtQ; omega
theorem dfBl_len {df : DfT} {wb : WbT} (V : List Va) : ∀ (Q : List Qu) (l : List Str), (∀ q ∈ Q, (dfQ df q).length ≤ wtQ wb q) → (Q.foldl (fun l q => addV V l (dfQ df q)) l).length ≤ l.length + (Q.map (wtQ wb)).sum
 | [], l, _ => Nat.le_refl _
 | q :: r, l, h => by
  have h1 := dfBl_len V r (addV V l (dfQ df q)) (fun x hx => h x (List.mem_cons_of_mem _ hx))
  have h2 := addV_len V (dfQ df q) l
  have h3 := h q (List.mem_cons_self ..)
  rw [List.foldl_cons, List.map_cons, List.sum_cons]
  omega
theorem dfBk_len {df : DfT} {wb : WbT} (V : List Va) (Q : List Qu) (k : Nat) (h : ∀ q ∈ Q, (dfQ df q).length ≤ wtQ wb q) : (dfBl df V (Q.take k)).length ≤ wtB wb V Q := by
 have := dfBl_len (df := df) (wb := wb) V (Q.take k) [] (fun a ha => h a (List.mem_of_mem_take ha))
 have h3 := sum_take (wtQ wb) Q k
 unfold dfBl wtB; rw [List.length_nil] at this; omega
def DBC (df : DfT) (wb : WbT) (V : List Va) (Q : List Qu) : Prop := (df V Q).length ≤ wb V Q ∧ ∀ m : M, ACalls Try.prog 41 [.ag [.sl .no (V.map Va.pv), .sl .no (Q.map Qu.pv)]] m (fun v m' => v = .sl .no ((df V Q).map pS) ∧ m' = m)
def DQC (df : DfT) (wb : WbT) (q : Qu) : Prop := (dfQ df q).length ≤ wtQ wb q ∧ ∀ m : M, ACalls Try.prog 45 [q.pv] m (fun v m' => v = .sl .no ((dfQ df q).map pS) ∧ m' = m)
set_option maxHeartbeats 4000000 in
theorem defines_step {df : DfT} {wb : WbT} (q : Qu) (hw : wtQ wb q ≤ 2 ^ 30) (ha : ∀ a ∈ q.arms, DBC df wb a.vars a.eqs) : DQC df wb q := by
 have hG : ∀ k, (dfA df q.lhs (q.arms.take k)).length ≤ wtQ wb q := fun k => dfAk_len q k (fun a h => (ha a h).1)
 have hl : q.lhs.length ≤ 2 ^ 30 := by unfold wtQ at hw; omega
 refine ⟨dfQ_len q (fun a h => (ha a h).1), fun m => ?_⟩
 obtain ⟨d, hd, hd1, hd2⟩ : ∃ d : TD, tdat Try.prog 9 = some d ∧ d.sz = 1 ∧ d.by_ ≤ 100 := ⟨(tdat Try.prog 9).get (by kernel_rfl), (Option.some_get _).symm, by kernel_rfl, of_decide_eq_true (by kernel_rfl)⟩
 have hcn := clone_91 .no (q.lhs.map pS) m d hd (by rw [hd1]; exact strs_one q.lhs) (by simp; unfold maxLen; omega) (by simp; have := Nat.mul_le_mul hl hd2; omega)
 rw [hd1] at hcn
 refine ACalls.enter (mu := []) ok_mix Try.func45 rfl (by kernel_rfl) (by kernel_rfl) (by simp only [List.length_cons, List.length_nil, Try.ntmps45]; omega) ?_
 (repeat (first | refine aSeq fun X hX => ?_ | refine aReg ?_; simp -implicitDefEqProofs only [↓slp, ↓reduceIte, reduceCtorEq, jA, jB, jE, Ym] | apply hX; clear hX X))
 refine callM hcn ?_
 rintro v mc ⟨rfl, rfl⟩
 simp -implicitDefEqProofs only [↓slp, slb, ↓reduceIte]
 (repeat (first | refine aSeq fun X hX => ?_ | refine aBlk ?_ | refine aReg ?_; simp -implicitDefEqProofs only [↓slp, ↓reduceIte, reduceCtorEq, jA, jB, jE, Ym] | apply hX; clear hX X | intro hlen; unfold maxLen at hlen))
 have t1 : Toks m (m.fresh 1) := (Toks.refl m).use (o := .full) (s := 1) (s' := 1) .full
 have m1 : Mine m (m.fresh 1) (.tok m.nt) 1 := Mine.new (o := .full) (Toks.refl m) 1
 obtain ⟨I, hI⟩ : ∃ I : F → M → Prop, ∀ f m', I f m' = (∃ (k : Nat) (o : Own), k ≤ q.arms.length ∧ f 3 = .sl o ((dfA df q.lhs (q.arms.take k)).map pS) ∧ f 12 = .sl .no (q.arms.map Am.pv) ∧ f 13 = pI q.arms.length ∧ f 14 = pI k ∧ Toks m m' ∧ Mine m m' o 1) := ⟨_, fun _ _ => rfl⟩
 refine aLoop I (fun f m => q.arms.length - numOf (f 14)) ?_ ?_
 ·rw [hI]; exact ⟨0, .tok m.nt, by omega, rfl, rfl, rfl, rfl, t1, m1⟩
 clear t1 m1
 intro f m' hrel
 rw [hI] at hrel
 obtain ⟨k, o, hk, f3, f12, f13, f14, htk, hmi⟩ := hrel
 have hlen2 := hG k
 cases c1 : decide ((k : Int) < (q.arms.length : Int)) with
 | false =>
  obtain rfl : k = q.arms.length := by simp at c1; omega
  rw [List.take_length] at f3
  (repeat (first | refine aSeq fun X hX => ?_ | (first | refine aExit ?_ | refine aRet ?_); try simp only [slx, ↓reduceIte, jA, reduceCtorEq] | (first | apply aReg | apply aIf); simp -implicitDefEqProofs only [↓slp, slb, ↓reduceIte, jA, f3, f13, f14, pI, c1] | apply hX; clear hX X | clear hX X; apply hX; clear hX X))
  simp only [aPost, Try.results45, aRes_n, aRes_t, aRes_c, pack_one, pack_two]
  simp -implicitDefEqProofs only [slb, ↓reduceIte]
  exact leave_toks0 htk rfl ⟨rfl, rfl⟩
 | true =>
  have hlt : k < q.arms.length := by simpa using c1
  have g0 := getD_map Am.pv q.arms k hlt
  have hi : IntKind.i64.wrap ((k : Int) + 1) = ((k + 1 : Nat) : Int) := by rw [wrap64 (by omega)]; omega
  have hme : numOf (f 14) = k := by rw [f14]; exact Int.toNat_natCast k
  have hb := ha q.arms[k] (List.getElem_mem hlt)
  have hwa := wt_blk (wb := wb) (List.getElem_mem hlt)
  have hrl : (df q.arms[k].vars q.arms[k].eqs).length ≤ 2 ^ 30 := by have := hb.1; omega
  have hnx := dfA_take (df := df) (l := q.lhs) hlt
  have hb1 := hb.2 m'
  clear hb hwa hG
  generalize hr0 : df q.arms[k].vars q.arms[k].eqs = r at *
  generalize hA0 : dfA df q.lhs (q.arms.take k) = A at *
  (repeat (first | refine aSeq fun X hX => ?_ | refine aSkip ?_ | (first | apply aReg | apply aIf); simp -implicitDefEqProofs only [↓slp, ↓reduceIte, reduceCtorEq, jA, jB, jE, jF, Ym, f12, f13, f14, pI, c1, g0] | apply hX; clear hX X | apply And.intro; focus omega))
  refine callM hb1 ?_
  rintro v mc ⟨rfl, rfl⟩
  simp -implicitDefEqProofs only [↓slp, ↓reduceIte, Ym]
  (repeat (first | refine aBlk ?_ | apply hX; clear hX X | intro hlen; unfold maxLen at hlen))
  obtain ⟨J, hJ⟩ : ∃ J : F → M → Prop, ∀ f m', J f m' = (∃ (j : Nat) (o : Own), j ≤ r.length ∧ f 3 = .sl o ((addL A (r.take j)).map pS) ∧ f 12 = .sl .no (q.arms.map Am.pv) ∧ f 13 = pI q.arms.length ∧ f 14 = pI k ∧ f 20 = .sl .no (r.map pS) ∧ f 21 = pI r.length ∧ f 22 = pI j ∧ Toks m m' ∧ Mine m m' o 1) := ⟨_, fun _ _ => rfl⟩
  refine aLoop J (fun f m => r.length - numOf (f 22)) ?_ ?_
  ·rw [hJ]; exact ⟨0, o, by omega, f3, f12, f13, f14, rfl, rfl, rfl, htk, hmi⟩
  clear f3 f12 f13 f14 htk hmi hb1
  intro f m' hrel
  rw [hJ] at hrel
  obtain ⟨j, o, hj, f3, f12, f13, f14, f20, f21, f22, htk, hmi⟩ := hrel
  cases c2 : decide ((j : Int) < (r.length : Int)) with
  | true =>
   have hltj : j < r.length := by simpa using c2
   have gj := getD_map pS r j hltj
   have hij : IntKind.i64.wrap ((j : Int) + 1) = ((j + 1 : Nat) : Int) := by rw [wrap64 (by omega)]; omega
   have hmej : numOf (f 22) = j := by rw [f22]; exact Int.toNat_natCast j
   have hlen3 := addL_len (r.take j) A
   have htk3 : (r.take j).length ≤ r.length := by rw [List.length_take]; omega
   (repeat (first | refine aSeq fun X hX => ?_ | refine aSkip ?_ | (first | apply aReg | apply aIf); simp -implicitDefEqProofs only [↓slp, ↓reduceIte, reduceCtorEq, jA, jB, Ym, f3, f20, f21, f22, pI, pS, c2, gj] | apply hX; clear hX X | apply And.intro; focus omega))
   refine callM (add_any o (addL A (r.take j)) r[j] m' hmi.free (by omega)) ?_
   rintro v mc ⟨rfl, rfl⟩
   simp -implicitDefEqProofs only [↓slp, slb, ↓reduceIte]
   (repeat (first | refine aReg ?_; simp -implicitDefEqProofs only [↓slp, slb, ↓reduceIte, jA, f22, pI, hij] | apply hX; clear hX X))
   rw [hJ]
   exact ⟨⟨j + 1, .tok m'.nt, hltj, by rw [addL_take hltj]; rfl, f12, f13, f14, f20, f21, rfl, htk.use hmi, Mine.new htk o 1⟩, by omega⟩
  | false =>
   obtain rfl : j = r.length := by simp at c2; omega
   rw [List.take_length] at f3
   (repeat (first | refine aSeq fun X hX => ?_ | refine aExit ?_; try simp only [slx, ↓reduceIte, jA, reduceCtorEq] | (first | apply aReg | apply aIf); simp -implicitDefEqProofs only [↓slp, slb, ↓reduceIte, jA, f14, hi, f21, f22, pI, c2] | apply hX; clear hX X | clear hX X; apply hX; clear hX X))
   rw [hI]
   exact ⟨⟨k + 1, o, hlt, by rw [hnx]; exact f3, f12, f13, rfl, htk, hmi⟩, by omega⟩
set_option maxHeartbeats 4000000 in
theorem bdefines_step {df : DfT} {wb : WbT} (V : List Va) (Q : List Qu) (hw : wtB wb V Q ≤ 2 ^ 30) (hA : ∀ q ∈ Q, ∀ a ∈ q.arms, DBC df wb a.vars a.eqs) : DBC (dfBl df) (wtB wb) V Q := by
 have hdq : ∀ q ∈ Q, DQC df wb q := fun q hq => defines_step q (Nat.le_trans (wt_eq hq) hw) (hA q hq)
 have hG : ∀ k, (dfBl df V (Q.take k)).length ≤ wtB wb V Q := fun k => dfBk_len V Q k (fun q hq => (hdq q hq).1)
 refine ⟨by have := hG Q.length; rwa [List.take_length] at this, fun m => ?_⟩
 refine ACalls.enter (mu := []) ok_mix Try.func41 rfl (by kernel_rfl) (by kernel_rfl) (by simp only [List.length_cons, List.length_nil, Try.ntmps41]; omega) ?_
 (repeat (first | refine aSeq fun X hX => ?_ | refine aBlk ?_ | refine aReg ?_; simp -implicitDefEqProofs only [↓slp, ↓reduceIte, reduceCtorEq, jA, jB, jE, Ym] | apply hX; clear hX X | intro hlen; unfold maxLen at hlen))
 obtain ⟨I, hI⟩ : ∃ I : F → M → Prop, ∀ f m', I f m' = (∃ (k : Nat) (o : Own), k ≤ Q.length ∧ f 1 = .ep [.sl .no (V.map Va.pv), .sl .no (Q.map Qu.pv)] ∧ f 3 = .sl o ((dfBl df V (Q.take k)).map pS) ∧ f 9 = .sl .no (Q.map Qu.pv) ∧ f 10 = pI Q.length ∧ f 11 = pI k ∧ Toks m m' ∧ Mine m m' o 1) := ⟨_, fun _ _ => rfl⟩
 refine aLoop I (fun f m => Q.length - numOf (f 11)) ?_ ?_
 ·rw [hI]; exact ⟨0, .full, by omega, rfl, rfl, rfl, rfl, rfl, .refl _, .full⟩
 intro f m' hrel
 rw [hI] at hrel
 obtain ⟨k, o, hk, f1, f3, f9, f10, f11, htk, hmi⟩ := hrel
 have hg := hG k
 cases c1 : decide ((k : Int) < (Q.length : Int)) with
 | false =>
  obtain rfl : k = Q.length := by simp at c1; omega
  rw [List.take_length] at f3
  (repeat (first | refine aSeq fun X hX => ?_ | (first | refine aExit ?_ | refine aRet ?_); try simp only [slx, ↓reduceIte, jA, reduceCtorEq] | (first | apply aReg | apply aIf); simp -implicitDefEqProofs only [↓slp, slb, ↓reduceIte, jA, f3, f10, f11, pI, c1] | apply hX; clear hX X | clear hX X; apply hX; clear hX X))
  simp only [aPost, Try.results41, aRes_n, aRes_t, aRes_c, pack_one, pack_two]
  simp -implicitDefEqProofs only [slb, ↓reduceIte]
  exact leave_toks0 htk rfl ⟨rfl, rfl⟩
 | true =>
  have hlt : k < Q.length := by simpa using c1
  have g0 := getD_map Qu.pv Q k hlt
  have hi : IntKind.i64.wrap ((k : Int) + 1) = ((k + 1 : Nat) : Int) := by rw [wrap64 (by omega)]; omega
  have hme : numOf (f 11) = k := by rw [f11]; exact Int.toNat_natCast k
  have hb := (hdq Q[k] (List.getElem_mem hlt)).2 m'
  have hrl : (dfQ df Q[k]).length ≤ 2 ^ 30 := Nat.le_trans (hdq Q[k] (List.getElem_mem hlt)).1 (Nat.le_trans (wt_eq (List.getElem_mem hlt)) hw)
  clear hG hdq
  have hnx := dfBl_take (df := df) (V := V) hlt
  rw [Qu.pv_eq] at hb
  generalize hr0 : dfQ df Q[k] = r at *
  generalize hA0 : dfBl df V (Q.take k) = A at *
  (repeat (first | refine aSeq fun X hX => ?_ | refine aSkip ?_ | (first | apply aReg | apply aIf); simp -implicitDefEqProofs only [↓slp, ↓reduceIte, reduceCtorEq, jA, jB, jE, jF, Ym, f9, f10, f11, pI, c1, g0] | apply hX; clear hX X | apply And.intro; focus omega))
  refine callM hb ?_
  rintro v mc ⟨rfl, rfl⟩
  simp -implicitDefEqProofs only [↓slp, ↓reduceIte, Ym]
  (repeat (first | refine aBlk ?_ | apply hX; clear hX X | intro hlen; unfold maxLen at hlen))
  obtain ⟨J, hJ⟩ : ∃ J : F → M → Prop, ∀ f m', J f m' = (∃ (j : Nat) (o : Own), j ≤ r.length ∧ f 1 = .ep [.sl .no (V.map Va.pv), .sl .no (Q.map Qu.pv)] ∧ f 3 = .sl o ((addV V A (r.take j)).map pS) ∧ f 9 = .sl .no (Q.map Qu.pv) ∧ f 10 = pI Q.length ∧ f 11 = pI k ∧ f 16 = .sl .no (r.map pS) ∧ f 17 = pI r.length ∧ f 18 = pI j ∧ Toks m m' ∧ Mine m m' o 1) := ⟨_, fun _ _ => rfl⟩
  refine aLoop J (fun f m => r.length - numOf (f 18)) ?_ ?_
  ·rw [hJ]; exact ⟨0, o, by omega, f1, f3, f9, f10, f11, rfl, rfl, rfl, htk, hmi⟩
  clear f1 f3 f9 f10 f11 htk hmi hb
  intro f m' hrel
  rw [hJ] at hrel
  obtain ⟨j, o, hj, f1, f3, f9, f10, f11, f16, f17, f18, htk, hmi⟩ := hrel
  cases c2 : decide ((j : Int) < (r.length : Int)) with
  | true =>
   have hltj : j < r.length := by simpa using c2
   have gj := getD_map pS r j hltj
   have hij : IntKind.i64.wrap ((j : Int) + 1) = ((j + 1 : Nat) : Int) := by rw [wrap64 (by omega)]; omega
   have hmej : numOf (f 18) = j := by rw [f18]; exact Int.toNat_natCast j
   have hlen3 := addV_len V (r.take j) A
   have htk3 : (r.take j).length ≤ r.length := by rw [List.length_take]; omega
   have hstp := addV_take (V := V) (l := A) hltj
   (repeat (first | refine aSeq fun X hX => ?_ | refine aSkip ?_ | (first | apply aReg | apply aIf); simp -implicitDefEqProofs only [↓slp, ↓reduceIte, reduceCtorEq, jA, jB, jE, Ym, f1, f16, f17, f18, pI, pS, c2, gj] | apply hX; clear hX X | apply And.intro; focus omega))
   refine callE (findVar_any _ V r[j] _) ?_
   rcases findVar_spec V r[j] with ⟨h1, h2⟩ | ⟨i, hiV, h1, h2, _⟩
   ·have c3 : decide ((-1 : Int) < 0) = true := rfl
    have hs1 : addV1 V (addV V A (r.take j)) r[j] = addS (addV V A (r.take j)) r[j] := by unfold addV1; rw [if_pos (by rw [h1]; omega)]
    rw [h1]
    simp -implicitDefEqProofs only [↓slp, slb, ↓reduceIte, jI, pI]
    (repeat (first | (first | apply aReg | apply aIf); simp -implicitDefEqProofs only [↓slp, slb, ↓reduceIte, reduceCtorEq, jA, f3] | apply hX; clear hX X))
    refine callM (add_any o (addV V A (r.take j)) r[j] m' hmi.free (by omega)) ?_
    rintro v mc ⟨rfl, rfl⟩
    simp -implicitDefEqProofs only [↓slp, slb, ↓reduceIte]
    (repeat (first | refine aReg ?_; simp -implicitDefEqProofs only [↓slp, slb, ↓reduceIte, jA, f18, pI, hij] | apply hX; clear hX X))
    rw [hJ]
    exact ⟨⟨j + 1, .tok m'.nt, hltj, f1, by rw [hstp, hs1]; rfl, f9, f10, f11, f16, f17, rfl, htk.use hmi, Mine.new htk o 1⟩, by omega⟩
   ·have c3 : decide (((i : Nat) : Int) < 0) = false := by simp
    have hs1 : addV1 V (addV V A (r.take j)) r[j] = addV V A (r.take j) := by unfold addV1; rw [if_neg (by rw [h1]; omega)]
    rw [h1]
    simp -implicitDefEqProofs only [↓slp, slb, ↓reduceIte, pI, c3]
    (repeat (first | refine aSkip ?_ | (first | apply aReg | apply aIf); simp -implicitDefEqProofs only [↓slp, slb, ↓reduceIte, jA, f18, pI, hij] | apply hX; clear hX X))
    rw [hJ]
    exact ⟨⟨j + 1, o, hltj, f1, by rw [hstp, hs1]; exact f3, f9, f10, f11, f16, f17, rfl, htk, hmi⟩, by omega⟩
  | false =>
   obtain rfl : j = r.length := by simp at c2; omega
   rw [List.take_length] at f3
   (repeat (first | refine aSeq fun X hX => ?_ | refine aExit ?_; try simp only [slx, ↓reduceIte, jA, reduceCtorEq] | (first | apply aReg | apply aIf); simp -implicitDefEqProofs only [↓slp, slb, ↓reduceIte, jA, f11, hi, f17, f18, pI, c2] | apply hX; clear hX X | clear hX X; apply hX; clear hX X))
   rw [hI]
   exact ⟨⟨k + 1, o, hlt, f1, by rw [hnx]; exact f3, f9, f10, rfl, htk, hmi⟩, by omega⟩
theorem bdefines_any : ∀ (d : Nat) (V : List Va) (Q : List Qu), DpB d Q → wtF d V Q ≤ 2 ^ 30 → DBC (dfF d) (wtF d) V Q
 | 0, V, Q, h, hw => bdefines_step (df := fun _ _ => []) (wb := fun _ _ => 0) V Q hw (fun q hq a ha => by rw [h q hq] at ha; cases ha)
 | d + 1, V, Q, h, hw => bdefines_step (df := dfF d) (wb := wtF d) V Q hw (fun q hq a ha => bdefines_any d a.vars a.eqs (h q hq a ha) (Nat.le_trans (wt_blk ha) (Nat.le_trans (wt_eq hq) hw)))
theorem defines_any (d : Nat) (q : Qu) (h : ∀ a ∈ q.arms, DpB d a.eqs) (hw : wtQ (wtF d) q ≤ 2 ^ 30) : DQC (dfF d) (wtF d) q :=
 defines_step q hw (fun a ha => bdefines_any d a.vars a.eqs (h a ha) (Nat.le_trans (wt_blk ha) hw))
end Go.Proofs.Ytibhhoknipdlpaa
