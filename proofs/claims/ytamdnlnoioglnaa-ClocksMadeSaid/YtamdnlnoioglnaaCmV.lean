/-
  Texts that belong together: CmK, CmL.
-/
import Derived.Test.YtamdnlnoioglnaaCmZ
import Derived.Test.YtamdnlnoioglnaaAbCv
import Derived.Test.YtamdnlnoioglnaaLvA
import Derived.Test.YtamdnlnoioglnaaCmX
import Derived.Test.YtamdnlnoioglnaaCmAw
import Derived.Test.YtamdnlnoioglnaaAbTail
/-
  clocks.Check of a program that is right.
-/
set_option linter.unusedVariables false
set_option linter.unusedSimpArgs false
namespace Go.Proofs.Ytamdnlnoioglnaa
open Nat renaming reduceEqDiff → jA, reduceAdd → jB, reduceMul → jC, reduceLT → jD, reduceLeDiff → jE, reduceBEq → jF, reduceBNe → jG
open Int renaming reduceLE → jH, reduceLT → jI, reduceToNat → jJ, reduceEq → jK
open Go
set_option maxRecDepth 20000
set_option linter.defProp false
def tfCmK := And.intro @tfA (And.intro @Ex.settle_pv (And.intro @Ex.pure_pv (And.intro @Ex.cells_pv (And.intro @Ex.cs.eq_1 (And.intro @On.pv.eq_1 (And.intro @Ty.pv.eq_1 (And.intro @Va.settle_pv (And.intro @Va.pure_pv (And.intro @Va.cells_pv (And.intro @Va.cs.eq_1 (And.intro @Qu.settle_pv (And.intro @Qu.pure_pv (And.intro @Qu.cells_pv (And.intro @Qu.cs.eq_1 (And.intro @No.settle_pv (And.intro @No.pure_pv (And.intro @No.cells_pv (And.intro @No.cs.eq_1 (And.intro @No.pv.eq_1 (And.intro @Sn.settle_pv (And.intro @Sn.pure_pv (And.intro @Sn.cells_pv (And.intro @Sn.cs.eq_1 @Sn.pv.eq_1)))))))))))))))))))))))

theorem DRet.mono {P : Program} {h : FuncId} {args : List PV} {m : M} {Q Q' : M → Prop} (hd : DRet P h args m Q) (hq : ∀ m', Q m' → Q' m') : DRet P h args m Q' := fun G w vs a b c => (hd G w vs a b c).mono (by rintro e u w' ⟨h1, h2, m', G', h3, h4, h5⟩; exact ⟨h1, h2, m', G', hq _ h3, h4, h5⟩)
theorem nk_e : nkT Try.prog 20 = some NK.nki := by kernel_rfl
set_option maxHeartbeats 2000000 in
theorem clo_ret (x : PV) (m : M) : DRet Try.prog 14 [x] m (fun m' => m' = m) := by
  refine DRet.of (mu := []) ok_mix Try.func14 rfl rfl ⟨rfl, rfl, rfl⟩ (by kernel_rfl) (by decide) (by simp only [List.length_cons, List.length_nil, Try.ntmps14]; omega) ?_
  (repeat (first | refine aSeq fun X hX => ?_ | refine aBlk ?_ | refine aSkip ?_ | (first | refine aExit ?_ | refine aRet ?_); try simp only [slx, ↓reduceIte, Nat.reduceEqDiff, reduceCtorEq] | (first | refine aReg ?_ | refine aDrE ?_); simp -implicitDefEqProofs only [forall_eq, nk_e, ↓slp, slb, ↓reduceIte, reduceCtorEq, jA, jB, jC, jD, jE, jF, jG, jH, jI, jJ, jK, tfCmK]; try simp only [Ex.fold, Ex.foldcs, ← Va.pv.eq_1] | refine hX _ _ ?_; clear hX X | clear hX X; refine hX _ _ ?_; clear hX X | clear hX X; clear hX X; refine hX _ _ ?_; clear hX X | intro hlen; unfold maxLen at hlen | apply And.intro; focus (first | omega | assumption | (repeat' apply And.intro) <;> first | omega | assumption)))
  refine aIf ?_; simp -implicitDefEqProofs only [nk_e, ↓slp, slb, ↓reduceIte, reduceCtorEq, jA, jB, jC, jD, jE, jF, jG, jH, jI, jJ, jK]
  (repeat (first | refine aSeq fun X hX => ?_ | refine aBlk ?_ | refine aSkip ?_ | (first | refine aExit ?_ | refine aRet ?_); try simp only [slx, ↓reduceIte, Nat.reduceEqDiff, reduceCtorEq] | (first | refine aReg ?_ | refine aDrE ?_); simp -implicitDefEqProofs only [forall_eq, nk_e, ↓slp, slb, ↓reduceIte, reduceCtorEq, jA, jB, jC, jD, jE, jF, jG, jH, jI, jJ, jK, tfCmK]; try simp only [Ex.fold, Ex.foldcs, ← Va.pv.eq_1] | refine hX _ _ ?_; clear hX X | clear hX X; refine hX _ _ ?_; clear hX X | clear hX X; clear hX X; refine hX _ _ ?_; clear hX X | intro hlen; unfold maxLen at hlen | apply And.intro; focus (first | omega | assumption | (repeat' apply And.intro) <;> first | omega | assumption)))
/-- A node that is right. -/
def NdOk (n : No) : Prop := (∀ v ∈ n.ins ++ n.outs, v.clock = []) ∧ (n.ins ++ n.outs).length ≤ 1000 ∧ CkB 3 (snOf 0 (n.ins ++ n.outs)) 0 n.b.vars n.b.eqs
set_option maxHeartbeats 8000000 in
theorem check_any (es : List PV) (ns : List No) (hns : ∀ n ∈ ns, NdOk n) (m : M) :
    ACalls Try.prog 7 [.ag [.sl .no es, .sl .no (ns.map No.pv)]] m (fun v m' => v = .v .nilIface ∧ m' = m) := by
  refine ACalls.leave (R := fun v m' => v = .v .nilIface ∧ ∃ mm r, Toks m mm ∧ m' = mm.ext (some [.v .nilIface] :: r)) ?_ (fun v m' ⟨h1, mm, r, h3, h2⟩ => by subst h1 h2; exact leave_toks h3 rfl ⟨rfl, rfl⟩)
  obtain ⟨Xf, hXf⟩ : ∃ Xf : F → M → Prop, ∀ f1 m1, Xf f1 m1 = ((f1 1 = .ep [.sl .no es, .sl .no (ns.map No.pv)] ∧ f1 2 = .bp m.nb 0) ∧ m1 = m.ext [some [.v .nilIface]]) := ⟨_, fun _ _ => rfl⟩
  refine ACalls.enterDL (mu := [2, 5]) (l := [_]) (kps := [2]) ok_mix Try.func7 rfl (by kernel_rfl) (by kernel_rfl) ⟨rfl, rfl, rfl⟩ ⟨rfl, rfl, rfl, rfl, rfl⟩ ?_ (fun kv => by rw [bd_kv _ _ kv (fun _ => undef)]; kernel_rfl) ⟨by decide, by decide⟩ (by simp only [List.length_cons, List.length_nil, Try.ntmps7]; omega) Xf ?_ ?_
  · intro A hA
    simp only [List.mem_cons, List.not_mem_nil, or_false] at hA
    rcases hA with rfl
    kernel_rfl
  · unfold aPre
    (repeat (first | refine aSeq fun X hX => ?_ | refine aBlk ?_ | refine aSkip ?_ | (first | refine aExit ?_ | refine aRet ?_); try simp only [slx, ↓reduceIte, Nat.reduceEqDiff, reduceCtorEq] | (first | refine aReg ?_ | refine aDrE ?_); simp -implicitDefEqProofs only [forall_eq, ↓slp, slb, ↓reduceIte, reduceCtorEq, jA, jB, jC, jD, jE, jF, jG, jH, jI, jJ, jK, tfCmK]; try simp only [Ex.fold, Ex.foldcs, ← Va.pv.eq_1] | refine hX _ _ ?_; clear hX X | clear hX X; refine hX _ _ ?_; clear hX X | clear hX X; clear hX X; refine hX _ _ ?_; clear hX X | intro hlen; unfold maxLen at hlen | apply And.intro; focus (first | omega | assumption | (repeat' apply And.intro) <;> first | omega | assumption)))
    show Xf _ _
    rw [hXf]
    exact ⟨⟨rfl, rfl⟩, rfl⟩
  · intro f1 m1 hx
    rw [hXf] at hx
    obtain ⟨⟨f1', f2⟩, rfl⟩ := hx
    have hargs : (#[Operand.tmp 2] : Array Operand).toList.map (ev f1) = [.bp m.nb 0] := by
      simp only [List.map_cons, List.map_nil, ev_tmp, f2]
    have k2 : (F.only [2] f1) 2 = .bp m.nb 0 := by unfold F.only; rw [if_pos (by simp)]; exact f2
    refine ⟨fun m2 => ∃ mm r, Toks m mm ∧ m2 = mm.ext (some [.v .nilIface] :: r), fun _ _ => False, ?_, ?_, fun v m2 h => h.elim⟩
    · (repeat (first | refine aSeq fun X hX => ?_ | refine aBlk ?_ | refine aSkip ?_ | (first | refine aExit ?_ | refine aRet ?_); try simp only [slx, ↓reduceIte, Nat.reduceEqDiff, reduceCtorEq] | (first | refine aReg ?_ | refine aIf ?_); simp -implicitDefEqProofs only [forall_eq, ↓slp, slb, ↓reduceIte, reduceCtorEq, jA, jB, jC, jD, jE, jF, jG, jH, jI, jJ, jK, tfCmK, f1', f2]; try simp only [Ex.fold, Ex.foldcs, ← Va.pv.eq_1] | refine hX _ _ ?_; clear hX X | clear hX X; refine hX _ _ ?_; clear hX X | clear hX X; clear hX X; refine hX _ _ ?_; clear hX X | intro hlen; unfold maxLen at hlen | apply And.intro; focus (first | omega | assumption | (repeat' apply And.intro) <;> first | omega | assumption)))
      obtain ⟨I, hI⟩ : ∃ I : F → M → Prop, ∀ f m', I f m' = (∃ (k : Nat) (mm : M) (r : List (Option (List PV))), k ≤ ns.length ∧ f 2 = .bp m.nb 0 ∧ f 10 = .sl .no (ns.map No.pv) ∧ f 11 = pI ns.length ∧ f 12 = pI k ∧ Toks m mm ∧ m' = mm.ext (some [.v .nilIface] :: r)) := ⟨_, fun _ _ => rfl⟩
      refine aLoop I (fun f m => ns.length - numOf (f 12)) ?_ ?_
      · rw [hI]; exact ⟨0, m, [], by omega, f2, rfl, rfl, rfl, .refl _, rfl⟩
      clear f1' f2
      intro f m' hrel
      rw [hI] at hrel
      obtain ⟨k, mm, r, hk, f2, f10, f11, f12, htk, rfl⟩ := hrel
      have hnb := htk.nb
      cases c1 : decide ((k : Int) < (ns.length : Int)) with
      | false =>
        (repeat (first | refine aSeq fun X hX => ?_ | refine aBlk ?_ | refine aSkip ?_ | (first | refine aExit ?_ | refine aRet ?_); try simp only [slx, ↓reduceIte, Nat.reduceEqDiff, reduceCtorEq] | (first | refine aReg ?_ | refine aIf ?_); simp -implicitDefEqProofs only [forall_eq, ↓slp, slb, ↓reduceIte, reduceCtorEq, jA, jB, jC, jD, jE, jF, jG, jH, jI, jJ, jK, tfCmK, f2, f10, f11, f12, pI, c1, hnb]; try simp only [Ex.fold, Ex.foldcs, ← Va.pv.eq_1] | refine hX _ _ ?_; clear hX X | clear hX X; refine hX _ _ ?_; clear hX X | clear hX X; clear hX X; refine hX _ _ ?_; clear hX X | intro hlen; unfold maxLen at hlen | apply And.intro; focus (first | omega | assumption | (repeat' apply And.intro) <;> first | omega | assumption)))
        exact ⟨.inr trivial, mm, r, htk, rfl⟩
      | true =>
        have hlt : k < ns.length := by simpa using c1
        have g0 := getD_map No.pv ns k hlt
        have hi : IntKind.i64.wrap ((k : Int) + 1) = ((k + 1 : Nat) : Int) := by rw [wrap64 (by omega)]; omega
        have hme : numOf (f 12) = k := by rw [f12]; exact Int.toNat_natCast k
        obtain ⟨hn1, hn3, hn2⟩ := hns ns[k] (List.getElem_mem hlt)
        generalize ns[k] = n at *
        obtain ⟨L, hL⟩ : ∃ L, n.ins ++ n.outs = L := ⟨_, rfl⟩
        rw [hL] at hn1 hn2 hn3
        have hLf : [n.ins, n.outs].flatten = L := by rw [← hL]; simp
        have hcc := fun m1 => concatV_any .full [n.ins, n.outs] m1 (by rw [hLf]; omega)
        rw [hLf] at hcc
        (repeat (first | refine aSeq fun X hX => ?_ | refine aBlk ?_ | refine aSkip ?_ | (first | refine aExit ?_ | refine aRet ?_); try simp only [slx, ↓reduceIte, Nat.reduceEqDiff, reduceCtorEq] | (first | refine aReg ?_ | refine aIf ?_); simp -implicitDefEqProofs only [forall_eq, ↓slp, slb, ↓reduceIte, reduceCtorEq, jA, jB, jC, jD, jE, jF, jG, jH, jI, jJ, jK, tfCmK, f2, f10, f11, f12, pI, c1, g0, hnb, List.set_cons_succ, List.cons_append, List.getElem?_cons_succ, List.set_cons_zero, List.getElem?_concat_length, set_concat_length]; try simp only [Ex.fold, Ex.foldcs, ← Va.pv.eq_1] | refine hX _ _ ?_; clear hX X | clear hX X; refine hX _ _ ?_; clear hX X | clear hX X; clear hX X; refine hX _ _ ?_; clear hX X | intro hlen; unfold maxLen at hlen | apply And.intro; focus (first | omega | assumption | (repeat' apply And.intro) <;> first | omega | assumption)))
        refine callE (hcc _) ?_
        simp -implicitDefEqProofs only [↓slp, slb, ↓reduceIte, reduceCtorEq, jA, jB, jC, jD, jE, jF, jG, jH, jI, jJ, jK, tfCmK]; try simp only [Ex.fold, Ex.foldcs, ← Va.pv.eq_1]
        (repeat (first | refine aSeq fun X hX => ?_ | refine aBlk ?_ | refine aSkip ?_ | (first | refine aExit ?_ | refine aRet ?_); try simp only [slx, ↓reduceIte, Nat.reduceEqDiff, reduceCtorEq] | (first | refine aReg ?_ | refine aIf ?_); simp -implicitDefEqProofs only [forall_eq, ↓slp, slb, ↓reduceIte, reduceCtorEq, jA, jB, jC, jD, jE, jF, jG, jH, jI, jJ, jK, tfCmK, f2, f10, f11, f12, pI, List.set_cons_succ, List.cons_append, List.getElem?_cons_succ, List.set_cons_zero, List.getElem?_concat_length, set_concat_length]; try simp only [Ex.fold, Ex.foldcs, ← Va.pv.eq_1] | refine hX _ _ ?_; clear hX X | clear hX X; refine hX _ _ ?_; clear hX X | clear hX X; clear hX X; refine hX _ _ ?_; clear hX X | intro hlen; unfold maxLen at hlen | apply And.intro; focus (first | omega | assumption | (repeat' apply And.intro) <;> first | omega | assumption)))
        obtain ⟨J, hJ⟩ : ∃ J : F → M → Prop, ∀ f m', J f m' = (∃ (j : Nat) (o : Own) (m2 : M), j ≤ L.length ∧ f 2 = .bp m.nb 0 ∧ f 4 = .ep n.cs ∧ f 5 = .bp (m.nb + (r.length + 1)) 0 ∧ f 10 = .sl .no (ns.map No.pv) ∧ f 11 = pI ns.length ∧ f 12 = pI k ∧ f 22 = .sl .no (L.map Va.pv) ∧ f 23 = pI L.length ∧ f 24 = pI j ∧ Toks m m2 ∧ Mine m m2 o 3 ∧ m' = m2.ext (some [.v .nilIface] :: (r ++ [some [.sl o ((snOf 0 (L.take j)).map Sn.pv), pI 0]]))) := ⟨_, fun _ _ => rfl⟩
        refine aLoop J (fun f m => L.length - numOf (f 24)) ?_ ?_
        · rw [hJ]; exact ⟨0, .full, mm, by omega, f2, rfl, rfl, f10, f11, f12, rfl, rfl, rfl, htk, .full, rfl⟩
        clear f2 f10 f11 f12 htk hnb
        intro f m' hrel
        rw [hJ] at hrel
        obtain ⟨j, o, m2, hj, f2, f4, f5, f10, f11, f12, f22, f23, f24, htk, hmi, rfl⟩ := hrel
        have hnb := htk.nb
        cases c2 : decide ((j : Int) < (L.length : Int)) with
        | true =>
          have hltj : j < L.length := by simpa using c2
          have gj := getD_map Va.pv L j hltj
          have hij : IntKind.i64.wrap ((j : Int) + 1) = ((j + 1 : Nat) : Int) := by rw [wrap64 (by omega)]; omega
          have hmej : numOf (f 24) = j := by rw [f24]; exact Int.toNat_natCast j
          have hck := hn1 L[j] (List.getElem_mem hltj)
          have c0 : decide (((0 : Nat) : Int) > 0) = false := rfl
          have hst := snOf_take 0 L j hltj
          have hsl := sn_len (snOf 0 (L.take j))
          have hll : (snOf 0 (L.take j)).length = j := by rw [snOf_len, List.length_take, Nat.min_eq_left hj]
          have hfr := hmi.free
          rw [hck] at hst
          generalize hGL : snOf 0 (L.take j) = H at *
          have hmx : H.length + 1 ≤ maxLen := by unfold maxLen; omega
          generalize L[j] = v at *
          (repeat (first | refine aSeq fun X hX => ?_ | refine aBlk ?_ | refine aSkip ?_ | (first | refine aExit ?_ | refine aRet ?_); try simp only [slx, ↓reduceIte, Nat.reduceEqDiff, reduceCtorEq] | (first | refine aReg ?_ | refine aIf ?_); simp -implicitDefEqProofs only [forall_eq, ↓slp, slb, ↓reduceIte, reduceCtorEq, jA, jB, jC, jD, jE, jF, jG, jH, jI, jJ, jK, tfCmK, f2, f4, f5, f10, f11, f12, f22, f23, f24, pI, c2, gj, hnb, hck, c0, hij, List.map_nil, List.length_nil, List.set_cons_succ, List.cons_append, List.getElem?_cons_succ, List.set_cons_zero, List.getElem?_concat_length, set_concat_length]; try simp only [Ex.fold, Ex.foldcs, ← Va.pv.eq_1] | refine hX _ _ ?_; clear hX X | clear hX X; refine hX _ _ ?_; clear hX X | clear hX X; clear hX X; refine hX _ _ ?_; clear hX X | intro hlen; unfold maxLen at hlen | apply And.intro; focus (first | omega | assumption | (repeat' apply And.intro) <;> first | omega | assumption)))
          rw [hJ]
          refine ⟨⟨j + 1, .tok m2.nt, (o.use m2).fresh 3, hltj, f2, f4, f5, f10, f11, f12, f22, f23, rfl, htk.use hmi, Mine.new htk o 3, ?_⟩, by omega⟩
          rw [hst, List.map_append]
          rfl
        | false =>
          have hj' : j = L.length := by simp at c2; omega
          subst hj'
          rw [List.take_length]
          have hB := fun m1 => block_all 3 _ _ _ _ hn2 m1 _ (.inl rfl)
          unfold scP at hB
          have hnf : ofV Value.nilFunc = .v .nilFunc := rfl
          (repeat (first | refine aSeq fun X hX => ?_ | refine aBlk ?_ | refine aSkip ?_ | (first | refine aExit ?_ | refine aRet ?_); try simp only [slx, ↓reduceIte, Nat.reduceEqDiff, reduceCtorEq] | (first | refine aReg ?_ | refine aIf ?_); simp -implicitDefEqProofs only [forall_eq, ↓slp, slb, ↓reduceIte, reduceCtorEq, jA, jB, jC, jD, jE, jF, jG, jH, jI, jJ, jK, tfCmK, f2, f4, f5, f10, f11, f12, f22, f23, f24, pI, c2, hnb, List.set_cons_succ, List.cons_append, List.getElem?_cons_succ, List.set_cons_zero, List.getElem?_concat_length, set_concat_length]; try simp only [Ex.fold, Ex.foldcs, ← Va.pv.eq_1] | refine hX _ _ ?_; clear hX X | clear hX X; refine hX _ _ ?_; clear hX X | clear hX X; clear hX X; refine hX _ _ ?_; clear hX X | intro hlen; unfold maxLen at hlen | apply And.intro; focus (first | omega | assumption | (repeat' apply And.intro) <;> first | omega | assumption)))
          refine callMS (hB _) (by simp only [List.map_cons, List.map_nil, PV.settle, PV.settles, hnf]) ?_
          rintro v mc ⟨rfl, rfl⟩
          simp -implicitDefEqProofs only [↓slp, slb, ↓reduceIte, reduceCtorEq, jA, jB, jC, jD, jE, jF, jG, jH, jI, jJ, jK, tfCmK]; try simp only [Ex.fold, Ex.foldcs, ← Va.pv.eq_1]
          (repeat (first | refine aSeq fun X hX => ?_ | refine aBlk ?_ | refine aSkip ?_ | (first | refine aExit ?_ | refine aRet ?_); try simp only [slx, ↓reduceIte, Nat.reduceEqDiff, reduceCtorEq] | (first | refine aReg ?_ | refine aIf ?_); simp -implicitDefEqProofs only [forall_eq, ↓slp, slb, ↓reduceIte, reduceCtorEq, jA, jB, jC, jD, jE, jF, jG, jH, jI, jJ, jK, tfCmK, f12, pI, hi]; try simp only [Ex.fold, Ex.foldcs, ← Va.pv.eq_1] | refine hX _ _ ?_; clear hX X | clear hX X; refine hX _ _ ?_; clear hX X | clear hX X; clear hX X; refine hX _ _ ?_; clear hX X | intro hlen; unfold maxLen at hlen | apply And.intro; focus (first | omega | assumption | (repeat' apply And.intro) <;> first | omega | assumption)))
          rw [hI]
          exact ⟨⟨k + 1, m2, _, hlt, f2, f10, f11, rfl, htk, rfl⟩, by omega⟩
    · rintro m2 ⟨mm, r, htk, rfl⟩
      have hnb := htk.nb
      rw [hargs]
      refine (clo_ret _ _).mono ?_
      rintro m3 rfl
      simp only [Try.results7, aRes_n, aRes_t, aRes_c]
      simp -implicitDefEqProofs only [↓slp, slb, ↓reduceIte, reduceCtorEq, jA, jB, jC, jD, jE, jF, jG, jH, jI, jJ, jK, tfCmK, k2, hnb]; try simp only [Ex.fold, Ex.foldcs, ← Va.pv.eq_1]
      exact ⟨mm, r, htk, rfl⟩
end Go.Proofs.Ytamdnlnoioglnaa

/-
  The law ClocksMade.
-/
set_option linter.unusedVariables false
set_option linter.unusedSimpArgs false
namespace Go.Proofs.Ytamdnlnoioglnaa
open Nat renaming reduceEqDiff → jA, reduceAdd → jB, reduceMul → jC, reduceLT → jD, reduceLeDiff → jE, reduceBEq → jF, reduceBNe → jG
open Int renaming reduceLE → jH, reduceLT → jI, reduceToNat → jJ, reduceEq → jK
open Go
set_option maxRecDepth 20000
set_option linter.defProp false
def tfCmL := And.intro @tfA (And.intro @Ex.settle_pv (And.intro @Ex.pure_pv (And.intro @Ex.cells_pv (And.intro @Ex.cs.eq_1 (And.intro @On.pv.eq_1 (And.intro @Ty.pv.eq_1 (And.intro @Va.settle_pv (And.intro @Va.pure_pv (And.intro @Va.cells_pv @Va.cs.eq_1)))))))))

theorem rd_nd {V : List Va} (hd : (V.map Va.name).Nodup) (hc : ∀ v ∈ V, v.clock = []) : RdN (snOf 0 V) 0 V := fun v hv => by
  have := lookN_nd (lv := 0) hd v hv
  exact on_look.2 ⟨_, this, hc v hv⟩
theorem made_ok {ns : List No} (h : GNodes ns) : ∀ n ∈ ns, NdOk n := fun n hn => by
  obtain ⟨k, hk, rfl⟩ := List.getElem_of_mem hn
  obtain ⟨l, e, b, n', _, hn', hb, he⟩ := h k hk
  rw [he]
  have hd : ((nIns ++ nOuts l e).map Va.name).Nodup := by
    show ([sNa, sBb, sX, sY] : List Str).Nodup
    decide +kernel
  have hc : ∀ v ∈ nIns ++ nOuts l e, v.clock = [] := fun v hv => by
    simp only [nIns, nOuts, mkVa, List.cons_append, List.nil_append, List.mem_cons, List.not_mem_nil, or_false] at hv
    rcases hv with rfl | rfl | rfl | rfl <;> rfl
  have hr := rd_nd hd hc
  refine ⟨hc, by simp [nIns, nOuts], ?_⟩
  refine (bk_ck 3 _ _ _ _ _ b hb (by omega) (by simp [nOuts]) (snOf 0 (nIns ++ nOuts l e)) 0 (by omega) (by omega) (by simp [snOf, nIns, nOuts]) ⟨fun v hv => hr v (List.mem_append_left _ hv), (fun v hv => by cases hv), (fun v hv => by cases hv)⟩ (fun v hv => hr v (List.mem_append_right _ hv)) (fun x hx j hj _ _ => ?_)).1
  exfalso
  simp only [snOf, nIns, nOuts, mkVa, List.cons_append, List.nil_append, List.map_cons, List.map_nil, List.mem_cons, List.not_mem_nil, or_false] at hx
  rcases hx with rfl | rfl | rfl | rfl <;> exact not_nm hj
set_option maxHeartbeats 4000000 in
theorem madeLaw_any (l : List Int) (hel : ∀ x ∈ l, 0 ≤ x ∧ x ≤ 255) :
    ACalls Try.prog 3 [.sl .no (l.map pU)] M0 (fun v m' => v = .v (.bool true)) := by
  refine ACalls.enter (mu := []) ok_mix Try.func3 rfl (by kernel_rfl) (by kernel_rfl) (by simp only [List.length_cons, List.length_nil, Try.ntmps3]; omega) ?_
  cases c1 : decide ((l.length : Int) > 400) with
  | true =>
    (repeat (first | refine aSeq fun X hX => ?_ | refine aBlk ?_ | refine aSkip ?_ | (first | refine aExit ?_ | refine aRet ?_); try simp only [slx, ↓reduceIte, Nat.reduceEqDiff, reduceCtorEq] | (first | refine aReg ?_ | refine aDrE ?_); simp -implicitDefEqProofs only [forall_eq, ↓slp, slb, ↓reduceIte, reduceCtorEq, jA, jB, jC, jD, jE, jF, jG, jH, jI, jJ, jK, tfCmL, c1]; try simp only [Ex.fold, Ex.foldcs, ← Va.pv.eq_1] | refine hX _ _ ?_; clear hX X | clear hX X; refine hX _ _ ?_; clear hX X | clear hX X; clear hX X; refine hX _ _ ?_; clear hX X | intro hlen; unfold maxLen at hlen | apply And.intro; focus (first | omega | assumption | (repeat' apply And.intro) <;> first | omega | assumption)))
    refine callE (awake_run _) ?_
    simp -implicitDefEqProofs only [↓slp, slb, ↓reduceIte, reduceCtorEq, jA, jB, jC, jD, jE, jF, jG, jH, jI, jJ, jK, tfCmL, c1]; try simp only [Ex.fold, Ex.foldcs, ← Va.pv.eq_1]
    (repeat (first | refine aSeq fun X hX => ?_ | refine aBlk ?_ | refine aSkip ?_ | (first | refine aExit ?_ | refine aRet ?_); try simp only [slx, ↓reduceIte, Nat.reduceEqDiff, reduceCtorEq] | (first | refine aReg ?_ | refine aDrE ?_); simp -implicitDefEqProofs only [forall_eq, ↓slp, slb, ↓reduceIte, reduceCtorEq, jA, jB, jC, jD, jE, jF, jG, jH, jI, jJ, jK, tfCmL, c1]; try simp only [Ex.fold, Ex.foldcs, ← Va.pv.eq_1] | refine hX _ _ ?_; clear hX X | clear hX X; refine hX _ _ ?_; clear hX X | clear hX X; clear hX X; refine hX _ _ ?_; clear hX X | intro hlen; unfold maxLen at hlen | apply And.intro; focus (first | omega | assumption | (repeat' apply And.intro) <;> first | omega | assumption)))
    refine aIf ?_; simp -implicitDefEqProofs only [↓slp, slb, ↓reduceIte, reduceCtorEq, jA, jB, jC, jD, jE, jF, jG, jH, jI, jJ, jK]
    (repeat (first | refine aSeq fun X hX => ?_ | refine aBlk ?_ | refine aSkip ?_ | (first | refine aExit ?_ | refine aRet ?_); try simp only [slx, ↓reduceIte, Nat.reduceEqDiff, reduceCtorEq] | (first | refine aReg ?_ | refine aDrE ?_); simp -implicitDefEqProofs only [forall_eq, ↓slp, slb, ↓reduceIte, reduceCtorEq, jA, jB, jC, jD, jE, jF, jG, jH, jI, jJ, jK, tfCmL]; try simp only [Ex.fold, Ex.foldcs, ← Va.pv.eq_1] | refine hX _ _ ?_; clear hX X | clear hX X; refine hX _ _ ?_; clear hX X | clear hX X; clear hX X; refine hX _ _ ?_; clear hX X | intro hlen; unfold maxLen at hlen | apply And.intro; focus (first | omega | assumption | (repeat' apply And.intro) <;> first | omega | assumption)))
    refine callE (awake_run _) ?_
    simp -implicitDefEqProofs only [↓slp, slb, ↓reduceIte, reduceCtorEq, jA, jB, jC, jD, jE, jF, jG, jH, jI, jJ, jK, tfCmL]; try simp only [Ex.fold, Ex.foldcs, ← Va.pv.eq_1]
    (repeat (first | refine aSeq fun X hX => ?_ | refine aBlk ?_ | refine aSkip ?_ | (first | refine aExit ?_ | refine aRet ?_); try simp only [slx, ↓reduceIte, Nat.reduceEqDiff, reduceCtorEq] | (first | refine aReg ?_ | refine aDrE ?_); simp -implicitDefEqProofs only [forall_eq, ↓slp, slb, ↓reduceIte, reduceCtorEq, jA, jB, jC, jD, jE, jF, jG, jH, jI, jJ, jK, tfCmL]; try simp only [Ex.fold, Ex.foldcs, ← Va.pv.eq_1] | refine hX _ _ ?_; clear hX X | clear hX X; refine hX _ _ ?_; clear hX X | clear hX X; clear hX X; refine hX _ _ ?_; clear hX X | intro hlen; unfold maxLen at hlen | apply And.intro; focus (first | omega | assumption | (repeat' apply And.intro) <;> first | omega | assumption)))
    simp only [aPost, Try.results3, aRes_n, aRes_t, aRes_c, pack_one, pack_two]
    exact leave_same rfl rfl
  | false =>
    (repeat (first | refine aSeq fun X hX => ?_ | refine aBlk ?_ | refine aSkip ?_ | (first | refine aExit ?_ | refine aRet ?_); try simp only [slx, ↓reduceIte, Nat.reduceEqDiff, reduceCtorEq] | (first | refine aReg ?_ | refine aDrE ?_); simp -implicitDefEqProofs only [forall_eq, ↓slp, slb, ↓reduceIte, reduceCtorEq, jA, jB, jC, jD, jE, jF, jG, jH, jI, jJ, jK, tfCmL, c1]; try simp only [Ex.fold, Ex.foldcs, ← Va.pv.eq_1] | refine hX _ _ ?_; clear hX X | clear hX X; refine hX _ _ ?_; clear hX X | clear hX X; clear hX X; refine hX _ _ ?_; clear hX X | intro hlen; unfold maxLen at hlen | apply And.intro; focus (first | omega | assumption | (repeat' apply And.intro) <;> first | omega | assumption)))
    refine callE (awake_run _) ?_
    simp -implicitDefEqProofs only [↓slp, slb, ↓reduceIte, reduceCtorEq, jA, jB, jC, jD, jE, jF, jG, jH, jI, jJ, jK, tfCmL, c1]; try simp only [Ex.fold, Ex.foldcs, ← Va.pv.eq_1]
    (repeat (first | refine aSeq fun X hX => ?_ | refine aBlk ?_ | refine aSkip ?_ | (first | refine aExit ?_ | refine aRet ?_); try simp only [slx, ↓reduceIte, Nat.reduceEqDiff, reduceCtorEq] | (first | refine aReg ?_ | refine aIf ?_); simp -implicitDefEqProofs only [forall_eq, ↓slp, slb, ↓reduceIte, reduceCtorEq, jA, jB, jC, jD, jE, jF, jG, jH, jI, jJ, jK, tfCmL, c1]; try simp only [Ex.fold, Ex.foldcs, ← Va.pv.eq_1] | refine hX _ _ ?_; clear hX X | clear hX X; refine hX _ _ ?_; clear hX X | clear hX X; clear hX X; refine hX _ _ ?_; clear hX X | intro hlen; unfold maxLen at hlen | apply And.intro; focus (first | omega | assumption | (repeat' apply And.intro) <;> first | omega | assumption)))
    refine callM (make_any l (by simp at c1; omega) hel _) ?_
    rintro v m' ⟨ns, rfl, _, hns, rfl⟩
    simp -implicitDefEqProofs only [↓slp, slb, ↓reduceIte, reduceCtorEq, jA, jB, jC, jD, jE, jF, jG, jH, jI, jJ, jK, tfCmL]; try simp only [Ex.fold, Ex.foldcs, ← Va.pv.eq_1]
    refine callE (check_any [.ag colC] ns (made_ok hns) _) ?_
    simp -implicitDefEqProofs only [↓slp, slb, ↓reduceIte, reduceCtorEq, jA, jB, jC, jD, jE, jF, jG, jH, jI, jJ, jK, tfCmL]; try simp only [Ex.fold, Ex.foldcs, ← Va.pv.eq_1]
    (repeat (first | refine aSeq fun X hX => ?_ | refine aBlk ?_ | refine aSkip ?_ | (first | refine aExit ?_ | refine aRet ?_); try simp only [slx, ↓reduceIte, Nat.reduceEqDiff, reduceCtorEq] | (first | refine aReg ?_ | refine aIf ?_); simp -implicitDefEqProofs only [forall_eq, ↓slp, slb, ↓reduceIte, reduceCtorEq, jA, jB, jC, jD, jE, jF, jG, jH, jI, jJ, jK, tfCmL]; try simp only [Ex.fold, Ex.foldcs, ← Va.pv.eq_1] | refine hX _ _ ?_; clear hX X | clear hX X; refine hX _ _ ?_; clear hX X | clear hX X; clear hX X; refine hX _ _ ?_; clear hX X | intro hlen; unfold maxLen at hlen | apply And.intro; focus (first | omega | assumption | (repeat' apply And.intro) <;> first | omega | assumption)))
    simp only [aPost, Try.results3, aRes_n, aRes_t, aRes_c, pack_one, pack_two]
    exact leave_same rfl rfl
end Go.Proofs.Ytamdnlnoioglnaa
