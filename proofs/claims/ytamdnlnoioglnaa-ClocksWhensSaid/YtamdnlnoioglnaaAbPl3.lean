/-
  Places for all parts: a program without types whose nodes are flat.
-/
import Derived.Test.YtamdnlnoioglnaaAbPl2
set_option linter.unusedVariables false
set_option linter.unusedSimpArgs false
namespace Go.Proofs.Ytamdnlnoioglnaa
open Nat renaming reduceEqDiff → jA, reduceAdd → jB, reduceMul → jC, reduceLT → jD, reduceLeDiff → jE, reduceBEq → jF, reduceBNe → jG
open Int renaming reduceLE → jH, reduceLT → jI, reduceToNat → jJ, reduceEq → jK
open Go
-- EXX: No.settle_pv, No.pure_pv, No.cells_pv, No.cs, Qu.settle_pv
set_option maxRecDepth 20000
-- TNAMES: int; uint8; int32; string; bool; []string; []api.Expr; api.Expr; *metronomeref04.counter; metronomeref04.counter; api.Pos; api.Type; []api.On; api.Var; []api.Var; api.Equation; []api.Equation; api.Block; api.Node; []api.Node; api.Enum; []api.Enum; api.Program
set_option linter.defProp false
def tfAbPl3 := And.intro @tfA (And.intro @Ex.settle_pv (And.intro @Ex.pure_pv (And.intro @Ex.cells_pv (And.intro @Ex.cs.eq_1 (And.intro @On.pv.eq_1 (And.intro @Ty.pv.eq_1 (And.intro @Va.settle_pv (And.intro @Va.pure_pv (And.intro @Va.cells_pv (And.intro @Va.cs.eq_1 (And.intro @No.settle_pv (And.intro @No.pure_pv (And.intro @No.cells_pv (And.intro @No.cs.eq_1 @Qu.settle_pv))))))))))))))

theorem cnt_mk {m : M} {z y : Option (List PV)} {r : List (Option (List PV))} {a : Nat} {c : Int} (h : m.nb + 1 = a) : cnt a (m.ext (z :: y :: r)) c = m.ext (z :: some (cN c) :: r) := by
  subst h
  unfold cnt
  rw [ext_upd (i := 1) rfl]
  rfl
theorem cnt_lift {P : Program} {mm : M} {a : Nat} (h : mm.nb + 1 = a) {f : FuncId} {args : List PV} {z : Option (List PV)} {r : List (Option (List PV))} {c c' : Int} {v0 : PV}
    (hc : ACalls P f args (cnt a (mm.ext (z :: some (cN c) :: r)) c) (fun v m' => v = v0 ∧ m' = cnt a (mm.ext (z :: some (cN c) :: r)) c')) : ACalls P f args (mm.ext (z :: some (cN c) :: r)) (fun v m' => v = v0 ∧ m' = mm.ext (z :: some (cN c') :: r)) := by
  rw [cnt_mk h] at hc
  exact ACalls.mono hc fun v m' hh => ⟨hh.1, by rw [hh.2, cnt_mk h]⟩
theorem cnt_in {mm : M} {a : Nat} (h : mm.nb + 1 = a) {z y : Option (List PV)} {r : List (Option (List PV))} : a < (mm.ext (z :: y :: r)).nb := by
  rw [ext_nb]; simp only [List.length_cons]; omega
def plN (n : No) (c : Int) : No × Int :=
  (⟨n.name, (plVs n.ins (nxt c)).1, (plVs n.outs (plVs n.ins (nxt c)).2).1, ⟨(plVs n.b.vars (plVs n.outs (plVs n.ins (nxt c)).2).2).1, (plQs n.b.eqs (plVs n.b.vars (plVs n.outs (plVs n.ins (nxt c)).2).2).2).1⟩, nxt c, 1⟩,
    (plQs n.b.eqs (plVs n.b.vars (plVs n.outs (plVs n.ins (nxt c)).2).2).2).2)
def plNs : List No → Int → List No × Int
  | [], c => ([], c)
  | v :: l, c => ((plN v c).1 :: (plNs l (plN v c).2).1, (plNs l (plN v c).2).2)
theorem plNs_snoc (l : List No) (x : No) : ∀ c, plNs (l ++ [x]) c = ((plNs l c).1 ++ [(plN x (plNs l c).2).1], (plN x (plNs l c).2).2) := by
  induction l with
  | nil => intro c; simp [plNs]
  | cons a l ih => intro c; simp [plNs, ih]
theorem plNs_len (l : List No) : ∀ c, (plNs l c).1.length = l.length := by
  induction l with
  | nil => intro c; rfl
  | cons a l ih => intro c; simp [plNs, ih]
theorem no_len7 (l : List No) : ∀ x ∈ l.map No.pv, x.cells.length = 7 := fun x hx => by
  obtain ⟨a, _, rfl⟩ := List.mem_map.1 hx
  rfl
structure No.flat (n : No) : Prop where
  ins : n.ins.length ≤ 1000000 ∧ ∀ v ∈ n.ins, v.first.nar
  outs : n.outs.length ≤ 1000000 ∧ ∀ v ∈ n.outs, v.first.nar
  vars : n.b.vars.length ≤ 1000000 ∧ ∀ v ∈ n.b.vars, v.first.nar
  eqs : n.b.eqs.length ≤ 1000000 ∧ ∀ q ∈ n.b.eqs, q.flat
set_option maxHeartbeats 8000000 in
theorem placed_any (l : List No) (hl : l.length ≤ 1000000) (hx : ∀ n ∈ l, n.flat) (m : M) :
    ACalls Try.prog 21 [.ag [.sl .no [], .sl .no (l.map No.pv)]] m (fun v m' => v = .ag [.sl .no [], .sl .no ((plNs l 0).1.map No.pv)] ∧ m' = m) := by
  have hz0 : decide ((0 : Int) < ((0 : Nat) : Int)) = false := rfl
  refine ACalls.enter (mu := [2, 4, 6, 8, 10]) ok_mix Try.func21 rfl (by kernel_rfl) (by kernel_rfl) (by simp only [List.length_cons, List.length_nil, Try.ntmps21]; omega) ?_
  (repeat (first | refine aSeq fun X hX => ?_ | refine aBlk ?_ | refine aSkip ?_ | (first | refine aExit ?_ | refine aRet ?_); try simp only [slx, ↓reduceIte, Nat.reduceEqDiff, reduceCtorEq] | (first | refine aReg ?_ | refine aIf ?_); simp -implicitDefEqProofs only [forall_eq, ↓slp, slb, ↓reduceIte, reduceCtorEq, jA, jB, jC, jD, jE, jF, jG, jH, jI, jJ, jK, tfAbPl3, hz0]; try simp only [Ex.fold, Ex.foldcs, ← Va.pv.eq_1] | refine hX _ _ ?_; clear hX X | clear hX X; refine hX _ _ ?_; clear hX X | clear hX X; clear hX X; refine hX _ _ ?_; clear hX X | intro hlen; unfold maxLen at hlen | apply And.intro; focus (first | omega | assumption | (repeat' apply And.intro) <;> first | omega | assumption)))
  obtain ⟨L, hL⟩ : ∃ L : F → M → Prop, ∀ f m', L f m' = (f 1 = .ep [.sl .no [], .sl .no (l.map No.pv)] ∧ f 2 = .bp m.nb 0 ∧ f 3 = .bp (m.nb + 1) 0 ∧ f 4 = .bp (m.nb + 2) 0 ∧ f 5 = pI 0 ∧ m' = m.ext [some [.sl .full [], .sl .full []], some (cN 0), some [.sl .full [], .sl .full []]]) := ⟨_, fun _ _ => rfl⟩
  refine aLoop L (fun f m => 0) ?_ ?_
  · rw [hL]; exact ⟨rfl, rfl, rfl, rfl, rfl, rfl⟩
  intro f m' hrel
  rw [hL] at hrel
  obtain ⟨f1, f2, f3, f4, f5, rfl⟩ := hrel
  (repeat (first | refine aSeq fun X hX => ?_ | refine aBlk ?_ | refine aSkip ?_ | (first | refine aExit ?_ | refine aRet ?_); try simp only [slx, ↓reduceIte, Nat.reduceEqDiff, reduceCtorEq] | (first | refine aReg ?_ | refine aIf ?_); simp -implicitDefEqProofs only [forall_eq, ↓slp, slb, ↓reduceIte, reduceCtorEq, jA, jB, jC, jD, jE, jF, jG, jH, jI, jJ, jK, tfAbPl3, f1, f2, f3, f4, f5, pI, hz0]; try simp only [Ex.fold, Ex.foldcs, ← Va.pv.eq_1] | refine hX _ _ ?_; clear hX X | clear hX X; refine hX _ _ ?_; clear hX X | clear hX X; clear hX X; refine hX _ _ ?_; clear hX X | intro hlen; unfold maxLen at hlen | apply And.intro; focus (first | omega | assumption | (repeat' apply And.intro) <;> first | omega | assumption)))
  obtain ⟨I, hI⟩ : ∃ I : F → M → Prop, ∀ f m', I f m' = (∃ (k : Nat) (o : Own) (mm : M) (r : List (Option (List PV))), k ≤ l.length ∧ f 1 = .ep [.sl .no [], .sl .no (l.map No.pv)] ∧ f 2 = .bp m.nb 0 ∧ f 3 = .bp (m.nb + 1) 0 ∧ f 4 = .bp (m.nb + 2) 0 ∧ f 7 = pI k ∧
    m' = mm.ext (some [.sl .full [], .sl .full []] :: some (cN (plNs (l.take k) 0).2) :: some [.sl .full [], .sl o ((plNs (l.take k) 0).1.map No.pv)] :: r) ∧ Toks m mm ∧ Mine m mm o 7) := ⟨_, fun _ _ => rfl⟩
  refine aLoop I (fun f m => l.length - numOf (f 7)) ?_ ?_
  · rw [hI]; exact ⟨0, .full, m, [], by omega, f1, f2, f3, f4, rfl, rfl, .refl m, .full⟩
  clear f1 f2 f3 f4 f5
  intro f m' hrel
  rw [hI] at hrel
  obtain ⟨k, o, mm, r, hk, f1, f2, f3, f4, f7, rfl, ht, ho⟩ := hrel
  have hnb := ht.nb
  have hA : mm.nb + 1 = m.nb + 1 := by omega
  cases c1 : decide ((k : Int) < (l.length : Int)) with
  | false =>
    have hk' : k = l.length := by simp at c1; omega
    subst hk'
    rw [List.take_length]
    generalize plNs l 0 = P at *
    (repeat (first | refine aSeq fun X hX => ?_ | refine aBlk ?_ | refine aSkip ?_ | (first | refine aExit ?_ | refine aRet ?_); try simp only [slx, ↓reduceIte, Nat.reduceEqDiff, reduceCtorEq] | (first | refine aReg ?_ | refine aIf ?_); simp -implicitDefEqProofs only [forall_eq, ↓slp, slb, ↓reduceIte, reduceCtorEq, jA, jB, jC, jD, jE, jF, jG, jH, jI, jJ, jK, tfAbPl3, f1, f2, f3, f4, f7, c1, hnb, pI, List.getElem?_concat_length, set_concat_length, List.set_cons_succ, List.cons_append, List.getElem?_cons_succ]; try simp only [Ex.fold, Ex.foldcs, ← Va.pv.eq_1] | refine hX _ _ ?_; clear hX X | clear hX X; refine hX _ _ ?_; clear hX X | clear hX X; clear hX X; refine hX _ _ ?_; clear hX X | intro hlen; unfold maxLen at hlen | apply And.intro; focus (first | omega | assumption | (repeat' apply And.intro) <;> first | omega | assumption)))
    simp only [aPost, Try.results21, aRes_n, aRes_t, aRes_c, pack_one, pack_two]
    simp -implicitDefEqProofs only [↓slp, slb, ↓reduceIte, reduceCtorEq, jA, jB, jC, jD, jE, jF, jG, jH, jI, jJ, jK, tfAbPl3, f1, f2, f3, f4, hnb, pI, List.getElem?_concat_length, set_concat_length, List.set_cons_succ, List.cons_append, List.getElem?_cons_succ]; try simp only [Ex.fold, Ex.foldcs, ← Va.pv.eq_1]
    exact leave_toks ht rfl ⟨rfl, rfl⟩
  | true =>
  have hlt : k < l.length := by simpa using c1
  have hg := getD_map No.pv l k hlt
  have hi : IntKind.i64.wrap ((k : Int) + 1) = ((k + 1 : Nat) : Int) := by rw [wrap64 (by omega)]; omega
  have hme : numOf (f 7) = k := by rw [f7]; exact Int.toNat_natCast k
  have htk : l.take (k + 1) = l.take k ++ [l[k]] := List.take_succ_eq_append_getElem hlt
  have hsn := plNs_snoc (l.take k) l[k] 0
  rw [← htk] at hsn
  have hlen := plNs_len (l.take k) 0
  rw [List.length_take, Nat.min_eq_left hk] at hlen
  obtain ⟨⟨hi1, hi2⟩, ⟨ho1, ho2⟩, ⟨hv1, hv2⟩, ⟨he1, he2⟩⟩ := hx _ (List.getElem_mem hlt)
  generalize l[k] = x at *
  generalize hP : plNs (l.take k) 0 = P at *
  have hpn : plN x P.2 = (⟨x.name, (plVs x.ins (nxt P.2)).1, (plVs x.outs (plVs x.ins (nxt P.2)).2).1, ⟨(plVs x.b.vars (plVs x.outs (plVs x.ins (nxt P.2)).2).2).1, (plQs x.b.eqs (plVs x.b.vars (plVs x.outs (plVs x.ins (nxt P.2)).2).2).2).1⟩, nxt P.2, 1⟩,
    (plQs x.b.eqs (plVs x.b.vars (plVs x.outs (plVs x.ins (nxt P.2)).2).2).2).2) := rfl
  (repeat (first | refine aSeq fun X hX => ?_ | refine aBlk ?_ | refine aSkip ?_ | (first | refine aExit ?_ | refine aRet ?_); try simp only [slx, ↓reduceIte, Nat.reduceEqDiff, reduceCtorEq] | (first | refine aReg ?_ | refine aIf ?_); simp -implicitDefEqProofs only [forall_eq, ↓slp, slb, ↓reduceIte, reduceCtorEq, jA, jB, jC, jD, jE, jF, jG, jH, jI, jJ, jK, tfAbPl3, f1, f2, f3, f4, f7, c1, hg, hnb, pI, List.getElem?_concat_length, set_concat_length, List.set_cons_succ, List.cons_append, List.getElem?_cons_succ]; try simp only [Ex.fold, Ex.foldcs, ← Va.pv.eq_1] | refine hX _ _ ?_; clear hX X | clear hX X; refine hX _ _ ?_; clear hX X | clear hX X; clear hX X; refine hX _ _ ?_; clear hX X | intro hlen; unfold maxLen at hlen | apply And.intro; focus (first | omega | assumption | (repeat' apply And.intro) <;> first | omega | assumption)))
  refine callE (cnt_lift hA (cnext_any _ _ (cnt_in hA) _)) ?_
  simp -implicitDefEqProofs only [↓slp, slb, ↓reduceIte, reduceCtorEq, jA, jB, jC, jD, jE, jF, jG, jH, jI, jJ, jK, tfAbPl3, f1, f2, f3, f4, f7, hnb, pI, List.getElem?_concat_length, set_concat_length, List.set_cons_succ, List.cons_append, List.getElem?_cons_succ]; try simp only [Ex.fold, Ex.foldcs, ← Va.pv.eq_1]
  (repeat (first | refine aSeq fun X hX => ?_ | refine aBlk ?_ | refine aSkip ?_ | (first | refine aExit ?_ | refine aRet ?_); try simp only [slx, ↓reduceIte, Nat.reduceEqDiff, reduceCtorEq] | (first | refine aReg ?_ | refine aIf ?_); simp -implicitDefEqProofs only [forall_eq, ↓slp, slb, ↓reduceIte, reduceCtorEq, jA, jB, jC, jD, jE, jF, jG, jH, jI, jJ, jK, tfAbPl3, f1, f2, f3, f4, f7, hnb, pI, List.getElem?_concat_length, set_concat_length, List.set_cons_succ, List.cons_append, List.getElem?_cons_succ]; try simp only [Ex.fold, Ex.foldcs, ← Va.pv.eq_1] | refine hX _ _ ?_; clear hX X | clear hX X; refine hX _ _ ?_; clear hX X | clear hX X; clear hX X; refine hX _ _ ?_; clear hX X | intro hlen; unfold maxLen at hlen | apply And.intro; focus (first | omega | assumption | (repeat' apply And.intro) <;> first | omega | assumption)))
  refine callE (cnt_lift hA (cvars_any x.ins hi1 hi2 _ _ (cnt_in hA) _)) ?_
  generalize plVs x.ins (nxt P.2) = V1 at *
  simp -implicitDefEqProofs only [↓slp, slb, ↓reduceIte, reduceCtorEq, jA, jB, jC, jD, jE, jF, jG, jH, jI, jJ, jK, tfAbPl3, f1, f2, f3, f4, f7, hnb, pI, List.getElem?_concat_length, set_concat_length, List.set_cons_succ, List.cons_append, List.getElem?_cons_succ]; try simp only [Ex.fold, Ex.foldcs, ← Va.pv.eq_1]
  (repeat (first | refine aSeq fun X hX => ?_ | refine aBlk ?_ | refine aSkip ?_ | (first | refine aExit ?_ | refine aRet ?_); try simp only [slx, ↓reduceIte, Nat.reduceEqDiff, reduceCtorEq] | (first | refine aReg ?_ | refine aIf ?_); simp -implicitDefEqProofs only [forall_eq, ↓slp, slb, ↓reduceIte, reduceCtorEq, jA, jB, jC, jD, jE, jF, jG, jH, jI, jJ, jK, tfAbPl3, f1, f2, f3, f4, f7, hnb, pI, List.getElem?_concat_length, set_concat_length, List.set_cons_succ, List.cons_append, List.getElem?_cons_succ]; try simp only [Ex.fold, Ex.foldcs, ← Va.pv.eq_1] | refine hX _ _ ?_; clear hX X | clear hX X; refine hX _ _ ?_; clear hX X | clear hX X; clear hX X; refine hX _ _ ?_; clear hX X | intro hlen; unfold maxLen at hlen | apply And.intro; focus (first | omega | assumption | (repeat' apply And.intro) <;> first | omega | assumption)))
  refine callE (cnt_lift hA (cvars_any x.outs ho1 ho2 _ _ (cnt_in hA) _)) ?_
  generalize plVs x.outs V1.2 = V2 at *
  simp -implicitDefEqProofs only [↓slp, slb, ↓reduceIte, reduceCtorEq, jA, jB, jC, jD, jE, jF, jG, jH, jI, jJ, jK, tfAbPl3, f1, f2, f3, f4, f7, hnb, pI, List.getElem?_concat_length, set_concat_length, List.set_cons_succ, List.cons_append, List.getElem?_cons_succ]; try simp only [Ex.fold, Ex.foldcs, ← Va.pv.eq_1]
  (repeat (first | refine aSeq fun X hX => ?_ | refine aBlk ?_ | refine aSkip ?_ | (first | refine aExit ?_ | refine aRet ?_); try simp only [slx, ↓reduceIte, Nat.reduceEqDiff, reduceCtorEq] | (first | refine aReg ?_ | refine aIf ?_); simp -implicitDefEqProofs only [forall_eq, ↓slp, slb, ↓reduceIte, reduceCtorEq, jA, jB, jC, jD, jE, jF, jG, jH, jI, jJ, jK, tfAbPl3, f1, f2, f3, f4, f7, hnb, pI, List.getElem?_concat_length, set_concat_length, List.set_cons_succ, List.cons_append, List.getElem?_cons_succ]; try simp only [Ex.fold, Ex.foldcs, ← Va.pv.eq_1] | refine hX _ _ ?_; clear hX X | clear hX X; refine hX _ _ ?_; clear hX X | clear hX X; clear hX X; refine hX _ _ ?_; clear hX X | intro hlen; unfold maxLen at hlen | apply And.intro; focus (first | omega | assumption | (repeat' apply And.intro) <;> first | omega | assumption)))
  refine callE (cnt_lift hA (cblock_any x.b.vars x.b.eqs hv1 hv2 he1 he2 _ _ (cnt_in hA) _)) ?_
  generalize plVs x.b.vars V2.2 = V3 at *
  generalize plQs x.b.eqs V3.2 = V4 at *
  have hfree := ho.free
  have q1 : P.1.length + 1 ≤ maxLen := by unfold maxLen; omega
  have q2 : (P.1.length + 1) * 136 ≤ 140737488355328 := by omega
  have q3 := no_len7 P.1
  simp -implicitDefEqProofs only [↓slp, slb, ↓reduceIte, reduceCtorEq, jA, jB, jC, jD, jE, jF, jG, jH, jI, jJ, jK, tfAbPl3, f1, f2, f3, f4, f7, hnb, pI, List.getElem?_concat_length, set_concat_length, List.set_cons_succ, List.cons_append, List.getElem?_cons_succ]; try simp only [Ex.fold, Ex.foldcs, ← Va.pv.eq_1]
  (repeat (first | refine aSeq fun X hX => ?_ | refine aBlk ?_ | refine aSkip ?_ | (first | refine aExit ?_ | refine aRet ?_); try simp only [slx, ↓reduceIte, Nat.reduceEqDiff, reduceCtorEq] | (first | refine aReg ?_ | refine aIf ?_); simp -implicitDefEqProofs only [forall_eq, ↓slp, slb, ↓reduceIte, reduceCtorEq, jA, jB, jC, jD, jE, jF, jG, jH, jI, jJ, jK, tfAbPl3, f1, f2, f3, f4, f7, hi, hnb, pI, List.getElem?_concat_length, set_concat_length, List.set_cons_succ, List.cons_append, List.getElem?_cons_succ]; try simp only [Ex.fold, Ex.foldcs, ← Va.pv.eq_1] | refine hX _ _ ?_; clear hX X | clear hX X; refine hX _ _ ?_; clear hX X | clear hX X; clear hX X; refine hX _ _ ?_; clear hX X | intro hlen; unfold maxLen at hlen | apply And.intro; focus (first | omega | assumption | (repeat' apply And.intro) <;> first | omega | assumption)))
  rw [hI]
  exact ⟨⟨k + 1, .tok mm.nt, _, r ++ [_], hlt, f1, f2, f3, f4, rfl, by rw [hsn, hpn, List.map_append, List.map_cons, List.map_nil]; rfl, ht.use ho, Mine.new ht o 7⟩, by omega⟩
end Go.Proofs.Ytamdnlnoioglnaa
