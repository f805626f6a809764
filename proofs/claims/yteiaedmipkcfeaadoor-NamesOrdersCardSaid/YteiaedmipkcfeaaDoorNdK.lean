/-
  names.Check of nodes that only call one another.
-/
import Derived.Test.YteiaedmipkcfeaaDoorNdA
import Derived.Test.YteiaedmipkcfeaaDoorNeF
import Derived.Test.YteiaedmipkcfeaaDoorLvA
import Derived.Test.YteiaedmipkcfeaaDoorRnA
set_option linter.unusedVariables false
set_option linter.unusedSimpArgs false
namespace Go.Proofs.YteiaedmipkcfeaaDoor
open Nat renaming reduceEqDiff → jA, reduceAdd → jB, reduceMul → jC, reduceLT → jD, reduceLeDiff → jE, reduceBEq → jF, reduceBNe → jG
open Int renaming reduceLE → jH, reduceLT → jI, reduceToNat → jJ, reduceEq → jK
open Go
-- EXX: Qu.settle_pv, Qu.pure_pv, Qu.cells_pv, Qu.cs, No.settle_pv, No.pure_pv, No.cells_pv, No.cs, No.pv.eq_1
set_option maxRecDepth 20000
-- TNAMES: int; uint8; int32; string; bool; []string; []api.Expr; api.Expr; api.Pos; api.Type; api.On; []api.On; api.Var; []api.Var; api.Equation; []api.Equation; api.Block; api.Trans; []api.Trans; api.Arm; []api.Arm; api.Node; []api.Node; api.Enum; []api.Enum; api.Program; names.looker; *names.looker; error; interface {}; api.Kind; names.stop
set_option linter.defProp false
def tfNdK := And.intro @tfA (And.intro @Ex.settle_pv (And.intro @Ex.pure_pv (And.intro @Ex.cells_pv (And.intro @Ex.cs.eq_1 (And.intro @On.pv.eq_1 (And.intro @Ty.pv.eq_1 (And.intro @Va.settle_pv (And.intro @Va.pure_pv (And.intro @Va.cells_pv (And.intro @Va.cs.eq_1 (And.intro @Qu.settle_pv (And.intro @Qu.pure_pv (And.intro @Qu.cells_pv (And.intro @Qu.cs.eq_1 (And.intro @No.settle_pv (And.intro @No.pure_pv (And.intro @No.cells_pv (And.intro @No.cs.eq_1 @No.pv.eq_1))))))))))))))))))

def errL : Option (Int × Int) → PV
  | none => .v .nilIface
  | some (l, c) => pA l c 6
/-- A program of nodes that only call one another. -/
structure DOk (S : List Str) (ns : List No) : Prop where
  len : ns.length ≤ 1000
  lenS : S.length ≤ 1000
  flat : ∀ n ∈ ns, FlatN n
  known : ∀ n ∈ ns, ∀ q ∈ n.b.eqs, Known ns q.name
  eqs : ∀ n ∈ ns, n.b.eqs.length ≤ 1000000
  inS : ∀ n ∈ ns, ∀ q ∈ n.b.eqs, q.arms = [] ∧ (q.kind = 2 → q.name ∈ S)
  names : ∀ k (h : k < ns.length), idxF (fun n : No => eqS n.name ns[k].name) ns 0 = (k : Int)
/-- What a node needs. -/
def needsD (S : List Str) (ns : List No) (s : Str) : List Str := needsN (cfN 0 ns) (2 * S.length + 1) [] [s]
/-- The place of the first node that needs itself. -/
def loopF (S : List Str) (ns : List No) : List No → Option (Int × Int)
  | [] => none
  | n :: r => if hasS (needsD S ns n.name) n.name then some (n.line, n.col) else loopF S ns r
set_option maxHeartbeats 1000000 in
theorem enumsD_any (ns : List No) (m : M) : ACalls Tryd.prog 22 [lkD ns] m (unit m) := by
  have z0 : decide (((0 : Nat) : Int) < 0) = false := rfl
  have z1 : decide ((0 : Int) < ((0 : Nat) : Int)) = false := rfl
  have z2 : decide ((0 : Int) < 0) = false := rfl
  unfold lkD
  refine ACalls.enter (mu := []) ok_mix Tryd.func22 rfl (by kernel_rfl) (by kernel_rfl) (by simp only [List.length_cons, List.length_nil, Tryd.ntmps22]; omega) ?_
  (repeat (first | refine aSeq fun X hX => ?_ | refine aBlk ?_ | refine aSkip ?_ | (first | refine aExit ?_ | refine aRet ?_); try simp only [slx, ↓reduceIte, Nat.reduceEqDiff, reduceCtorEq] | (first | refine aReg ?_ | refine aIf ?_); simp -implicitDefEqProofs only [forall_eq, ↓slp, slb, ↓reduceIte, reduceCtorEq, jA, jB, jC, jD, jE, jF, jG, jH, jI, jJ, jK, tfNdK]; try simp only [Ex.fold, Ex.foldcs, ← Va.pv.eq_1] | refine hX _ _ ?_; clear hX X | clear hX X; refine hX _ _ ?_; clear hX X | clear hX X; clear hX X; refine hX _ _ ?_; clear hX X | intro hlen; unfold maxLen at hlen | apply And.intro; focus (first | omega | assumption | (repeat' apply And.intro) <;> first | omega | assumption)))
  obtain ⟨I, hI⟩ : ∃ I : F → M → Prop, ∀ f m', I f m' = (f 12 = pI 0 ∧ f 13 = pI 0 ∧ m = m') := ⟨_, fun _ _ => rfl⟩
  refine aLoop I (fun f m => 0) ?_ ?_
  · rw [hI]; exact ⟨rfl, rfl, rfl⟩
  intro f m' hrel
  rw [hI] at hrel
  obtain ⟨g1, g2, rfl⟩ := hrel
  (repeat (first | refine aSeq fun X hX => ?_ | refine aBlk ?_ | refine aSkip ?_ | (first | refine aExit ?_ | refine aRet ?_); try simp only [slx, ↓reduceIte, Nat.reduceEqDiff, reduceCtorEq] | (first | refine aReg ?_ | refine aIf ?_); simp -implicitDefEqProofs only [forall_eq, ↓slp, slb, ↓reduceIte, reduceCtorEq, jA, jB, jC, jD, jE, jF, jG, jH, jI, jJ, jK, tfNdK, g1, g2, pI, z0, z1, z2]; try simp only [Ex.fold, Ex.foldcs, ← Va.pv.eq_1] | refine hX _ _ ?_; clear hX X | clear hX X; refine hX _ _ ?_; clear hX X | clear hX X; clear hX X; refine hX _ _ ?_; clear hX X | intro hlen; unfold maxLen at hlen | apply And.intro; focus (first | omega | assumption | (repeat' apply And.intro) <;> first | omega | assumption)))
  simp only [aPost, Tryd.results22, aRes_n, aRes_t, aRes_c, pack_one, pack_two]
  exact leave_same rfl ⟨rfl, rfl⟩
theorem DRet.mono {P : Program} {h : FuncId} {args : List PV} {m : M} {Q Q' : M → Prop} (hd : DRet P h args m Q) (hq : ∀ m', Q m' → Q' m') : DRet P h args m Q' := fun G w vs a b c => (hd G w vs a b c).mono (by rintro e u w' ⟨h1, h2, m', G', h3, h4, h5⟩; exact ⟨h1, h2, m', G', hq _ h3, h4, h5⟩)
set_option maxHeartbeats 2000000 in
theorem clo_ret (x : PV) (m : M) : DRet Tryd.prog 21 [x] m (fun m' => m' = m) := by
  refine DRet.of (mu := []) ok_mix Tryd.func21 rfl rfl ⟨rfl, rfl, rfl⟩ (by kernel_rfl) (by decide) (by simp only [List.length_cons, List.length_nil, Tryd.ntmps21]; omega) ?_
  (repeat (first | refine aSeq fun X hX => ?_ | refine aBlk ?_ | refine aSkip ?_ | (first | refine aExit ?_ | refine aRet ?_); try simp only [slx, ↓reduceIte, Nat.reduceEqDiff, reduceCtorEq] | (first | refine aReg ?_ | refine aDrE ?_); simp -implicitDefEqProofs only [forall_eq, ↓slp, slb, ↓reduceIte, reduceCtorEq, jA, jB, jC, jD, jE, jF, jG, jH, jI, jJ, jK, tfNdK]; try simp only [Ex.fold, Ex.foldcs, ← Va.pv.eq_1] | refine hX _ _ ?_; clear hX X | clear hX X; refine hX _ _ ?_; clear hX X | clear hX X; clear hX X; refine hX _ _ ?_; clear hX X | intro hlen; unfold maxLen at hlen | apply And.intro; focus (first | omega | assumption | (repeat' apply And.intro) <;> first | omega | assumption)))
  refine aIf ?_; simp -implicitDefEqProofs only [↓slp, slb, ↓reduceIte, reduceCtorEq, jA, jB, jC, jD, jE, jF, jG, jH, jI, jJ, jK]
  (repeat (first | refine aSeq fun X hX => ?_ | refine aBlk ?_ | refine aSkip ?_ | (first | refine aExit ?_ | refine aRet ?_); try simp only [slx, ↓reduceIte, Nat.reduceEqDiff, reduceCtorEq] | (first | refine aReg ?_ | refine aDrE ?_); simp -implicitDefEqProofs only [forall_eq, ↓slp, slb, ↓reduceIte, reduceCtorEq, jA, jB, jC, jD, jE, jF, jG, jH, jI, jJ, jK, tfNdK]; try simp only [Ex.fold, Ex.foldcs, ← Va.pv.eq_1] | refine hX _ _ ?_; clear hX X | clear hX X; refine hX _ _ ?_; clear hX X | clear hX X; clear hX X; refine hX _ _ ?_; clear hX X | intro hlen; unfold maxLen at hlen | apply And.intro; focus (first | omega | assumption | (repeat' apply And.intro) <;> first | omega | assumption)))
set_option maxHeartbeats 2000000 in
theorem DPan.mono {P : Program} {h : FuncId} {args : List PV} {v : PV} {m : M} {Q Q' : M → Prop} (hd : DPan P h args v m Q) (hq : ∀ m', Q m' → Q' m') : DPan P h args v m Q' := fun G w vs y a b c d => (hd G w vs y a b c d).mono (by rintro e u w' ⟨h1, h2, m', G', h3, h4, h5⟩; exact ⟨h1, h2, m', G', hq _ h3, h4, h5⟩)
set_option maxHeartbeats 2000000 in
theorem clo_pan (id : Nat) (x : PV) (l c k : Int) (m : M) (hg : m.get id = some [x]) : DPan Tryd.prog 21 [.bp id 0] (pStop l c k) m (fun m' => m' = m.upd id [pA l c k]) := by
  refine DPan.of (mu := []) ok_mix Tryd.func21 rfl rfl ⟨rfl, rfl, rfl⟩ (by kernel_rfl) (by decide) (by simp only [List.length_cons, List.length_nil, Tryd.ntmps21]; omega) ?_
  have hu := Tryd.underlying69
  (repeat (first | refine aSeq fun X hX => ?_ | refine aBlk ?_ | refine aSkip ?_ | (first | refine aExit ?_ | refine aRet ?_); try simp only [slx, ↓reduceIte, Nat.reduceEqDiff, reduceCtorEq] | (first | refine aReg ?_ | refine aIf ?_); simp -implicitDefEqProofs only [forall_eq, ↓slp, slb, ↓reduceIte, reduceCtorEq, jA, jB, jC, jD, jE, jF, jG, jH, jI, jJ, jK, tfNdK, hu, hg]; try simp only [Ex.fold, Ex.foldcs, ← Va.pv.eq_1] | refine hX _ _ ?_; clear hX X | clear hX X; refine hX _ _ ?_; clear hX X | clear hX X; clear hX X; refine hX _ _ ?_; clear hX X | intro hlen; unfold maxLen at hlen | apply And.intro; focus (first | omega | assumption | (repeat' apply And.intro) <;> first | omega | assumption)))
set_option maxHeartbeats 8000000 in
theorem checkD_any {S : List Str} {ns : List No} (hD : DOk S ns) (m : M) :
    ACalls Tryd.prog 8 [.ag [.sl .no [], .sl .no (ns.map No.pv)]] m (fun v m' => v = errL (loopF S ns ns) ∧ m' = m) := by
  obtain ⟨FE, hFE⟩ : ∃ FE, loopF S ns ns = FE := ⟨_, rfl⟩
  refine ACalls.leave (R := fun v m' => v = errL FE ∧ m' = m.ext [some [errL FE]]) ?_ (fun v m' ⟨h1, h2⟩ => by subst h1 h2; rw [hFE]; exact leave_ext (by cases FE <;> rfl) ⟨(by cases FE <;> rfl), rfl⟩)
  have hln := hD.len
  have hnd := fun (k : Nat) (h : k < ns.length) m => nodeD_any ns ns[k] (hD.flat _ (List.getElem_mem h)) (hD.known _ (List.getElem_mem h)) m
  have hen := fun m => enumsD_any ns m
  have hfn := fun (k : Nat) (hk : k < ns.length) m => (show ACalls Tryd.prog 23 [.ag [.sl .no [], .sl .no (ns.map No.pv)], pS ns[k].name] m (fun v m' => v = pI k ∧ m' = m) by
    have := findNode_any .no [] ns ns[k].name m
    rwa [hD.names k hk] at this)
  have hne := fun (s : Str) m => needs_any hD.lenS 0 [] ns (fun n hn => calls_any hD.lenS 0 _ (fun q hq => ⟨(hD.inS n hn q hq).2, fun a ha => by rw [(hD.inS n hn q hq).1] at ha; simp at ha⟩)) s m
  have hct := fun (o : Own) (l : List Str) (s : Str) (m : M) => contains_any o l s m
  have hfl := fun (l c : Int) (m : M) => fail_any 6 l c rfl m
  unfold lkD at *
  obtain ⟨Xf, hXf⟩ : ∃ Xf : F → M → Prop, ∀ f1 m1, Xf f1 m1 = ((f1 1 = .ep [.sl .no [], .sl .no (ns.map No.pv)] ∧ f1 2 = .bp m.nb 0) ∧ m1 = m.ext [some [.v .nilIface]]) := ⟨_, fun _ _ => rfl⟩
  refine ACalls.enterDL (mu := [2]) (l := [_]) (kps := [2]) ok_mix Tryd.func8 rfl (by kernel_rfl) (by kernel_rfl) ⟨rfl, rfl, rfl⟩ ⟨rfl, rfl, rfl, rfl, rfl⟩ ?_ (fun kv => by rw [bd_kv _ _ kv (fun _ => undef)]; kernel_rfl) ⟨by decide, by decide⟩ (by simp only [List.length_cons, List.length_nil, Tryd.ntmps8]; omega) Xf ?_ ?_
  · intro A hA
    simp only [List.mem_cons, List.not_mem_nil, or_false] at hA
    rcases hA with rfl
    kernel_rfl
  · unfold aPre
    (repeat (first | refine aSeq fun X hX => ?_ | refine aBlk ?_ | refine aSkip ?_ | (first | refine aExit ?_ | refine aRet ?_); try simp only [slx, ↓reduceIte, Nat.reduceEqDiff, reduceCtorEq] | (first | refine aReg ?_ | refine aDrE ?_); simp -implicitDefEqProofs only [forall_eq, ↓slp, slb, ↓reduceIte, reduceCtorEq, jA, jB, jC, jD, jE, jF, jG, jH, jI, jJ, jK, tfNdK]; try simp only [Ex.fold, Ex.foldcs, ← Va.pv.eq_1] | refine hX _ _ ?_; clear hX X | clear hX X; refine hX _ _ ?_; clear hX X | clear hX X; clear hX X; refine hX _ _ ?_; clear hX X | intro hlen; unfold maxLen at hlen | apply And.intro; focus (first | omega | assumption | (repeat' apply And.intro) <;> first | omega | assumption)))
    show Xf _ _
    rw [hXf]
    exact ⟨⟨rfl, rfl⟩, rfl⟩
  · intro f1 m1 hx
    rw [hXf] at hx
    obtain ⟨⟨f1', f2⟩, rfl⟩ := hx
    have hargs : (#[Operand.tmp 2] : Array Operand).toList.map (ev f1) = [.bp m.nb 0] := by
      simp only [List.map_cons, List.map_nil, ev_tmp, f2]
    have k2 : (F.only [2] f1) 2 = .bp m.nb 0 := by unfold F.only; rw [if_pos (by simp)]; exact f2
    obtain ⟨ms, hms⟩ : ∃ ms, m.ext [some [.v .nilIface]] = ms := ⟨_, rfl⟩
    have hup : ∀ c, ms.upd m.nb c = m.ext [some c] := fun c => by rw [← hms]; simp [ext_upd0]
    have hgs : ms.get m.nb = some [.v .nilIface] := by rw [← hms]; exact ext_get (i := 0) rfl
    rw [hms]
    refine ⟨fun m2 => FE = none ∧ m2 = ms, fun v m2 => ∃ l c, FE = some (l, c) ∧ v = pStop l c 6 ∧ m2 = ms, ?_, ?_, ?_⟩
    · (repeat (first | refine aSeq fun X hX => ?_ | refine aBlk ?_ | refine aSkip ?_ | (first | refine aExit ?_ | refine aRet ?_); try simp only [slx, ↓reduceIte, Nat.reduceEqDiff, reduceCtorEq] | (first | refine aReg ?_ | refine aIf ?_); simp -implicitDefEqProofs only [forall_eq, ↓slp, slb, ↓reduceIte, reduceCtorEq, jA, jB, jC, jD, jE, jF, jG, jH, jI, jJ, jK, tfNdK, f1', f2]; try simp only [Ex.fold, Ex.foldcs, ← Va.pv.eq_1] | refine hX _ _ ?_; clear hX X | clear hX X; refine hX _ _ ?_; clear hX X | clear hX X; clear hX X; refine hX _ _ ?_; clear hX X | intro hlen; unfold maxLen at hlen | apply And.intro; focus (first | omega | assumption | (repeat' apply And.intro) <;> first | omega | assumption)))
      refine callE (hen _) ?_
      simp -implicitDefEqProofs only [↓slp, slb, ↓reduceIte, reduceCtorEq, jA, jB, jC, jD, jE, jF, jG, jH, jI, jJ, jK, tfNdK]; try simp only [Ex.fold, Ex.foldcs, ← Va.pv.eq_1]
      (repeat (first | refine aSeq fun X hX => ?_ | refine aBlk ?_ | refine aSkip ?_ | (first | refine aExit ?_ | refine aRet ?_); try simp only [slx, ↓reduceIte, Nat.reduceEqDiff, reduceCtorEq] | (first | refine aReg ?_ | refine aIf ?_); simp -implicitDefEqProofs only [forall_eq, ↓slp, slb, ↓reduceIte, reduceCtorEq, jA, jB, jC, jD, jE, jF, jG, jH, jI, jJ, jK, tfNdK, f1', f2]; try simp only [Ex.fold, Ex.foldcs, ← Va.pv.eq_1] | refine hX _ _ ?_; clear hX X | clear hX X; refine hX _ _ ?_; clear hX X | clear hX X; clear hX X; refine hX _ _ ?_; clear hX X | intro hlen; unfold maxLen at hlen | apply And.intro; focus (first | omega | assumption | (repeat' apply And.intro) <;> first | omega | assumption)))
      obtain ⟨I, hI⟩ : ∃ I : F → M → Prop, ∀ f m', I f m' = (∃ (k : Nat), k ≤ ns.length ∧ f 1 = .ep [.sl .no [], .sl .no (ns.map No.pv)] ∧ f 2 = .bp m.nb 0 ∧ f 3 = .ep [.sl .no [], .sl .no (ns.map No.pv)] ∧ f 17 = .sl .no (ns.map No.pv) ∧ f 18 = pI ns.length ∧ f 19 = pI k ∧ ms = m') := ⟨_, fun _ _ => rfl⟩
      refine aLoop I (fun f m => ns.length - numOf (f 19)) ?_ ?_
      · rw [hI]; exact ⟨0, by omega, f1', f2, rfl, rfl, rfl, rfl, rfl⟩
      clear f1' f2
      intro f m' hrel
      rw [hI] at hrel
      obtain ⟨k, hk, f1', f2, f3, f17, f18, f19, rfl⟩ := hrel
      cases c1 : decide ((k : Int) < (ns.length : Int)) with
      | true =>
        have hlt : k < ns.length := by simpa using c1
        have g0 := getD_map No.pv ns k hlt
        have hi : IntKind.i64.wrap ((k : Int) + 1) = ((k + 1 : Nat) : Int) := by rw [wrap64 (by omega)]; omega
        have hme : numOf (f 19) = k := by rw [f19]; exact Int.toNat_natCast k
        have hf := hfn k hlt
        have dk : decide ((k : Int) < (k : Int)) = false := by simp
        generalize ns[k] = n at *
        (repeat (first | refine aSeq fun X hX => ?_ | refine aBlk ?_ | refine aSkip ?_ | (first | refine aExit ?_ | refine aRet ?_); try simp only [slx, ↓reduceIte, Nat.reduceEqDiff, reduceCtorEq] | (first | refine aReg ?_ | refine aIf ?_); simp -implicitDefEqProofs only [forall_eq, ↓slp, slb, ↓reduceIte, reduceCtorEq, jA, jB, jC, jD, jE, jF, jG, jH, jI, jJ, jK, tfNdK, f1', f2, f3, f17, f18, f19, pI, c1, g0]; try simp only [Ex.fold, Ex.foldcs, ← Va.pv.eq_1] | refine hX _ _ ?_; clear hX X | clear hX X; refine hX _ _ ?_; clear hX X | clear hX X; clear hX X; refine hX _ _ ?_; clear hX X | intro hlen; unfold maxLen at hlen | apply And.intro; focus (first | omega | assumption | (repeat' apply And.intro) <;> first | omega | assumption)))
        refine callE (hf _) ?_
        simp -implicitDefEqProofs only [↓slp, slb, ↓reduceIte, reduceCtorEq, jA, jB, jC, jD, jE, jF, jG, jH, jI, jJ, jK, tfNdK, pI, dk]; try simp only [Ex.fold, Ex.foldcs, ← Va.pv.eq_1]
        (repeat (first | refine aSeq fun X hX => ?_ | refine aBlk ?_ | refine aSkip ?_ | (first | refine aExit ?_ | refine aRet ?_); try simp only [slx, ↓reduceIte, Nat.reduceEqDiff, reduceCtorEq] | (first | refine aReg ?_ | refine aIf ?_); simp -implicitDefEqProofs only [forall_eq, ↓slp, slb, ↓reduceIte, reduceCtorEq, jA, jB, jC, jD, jE, jF, jG, jH, jI, jJ, jK, tfNdK, f19, pI, hi, dk]; try simp only [Ex.fold, Ex.foldcs, ← Va.pv.eq_1] | refine hX _ _ ?_; clear hX X | clear hX X; refine hX _ _ ?_; clear hX X | clear hX X; clear hX X; refine hX _ _ ?_; clear hX X | intro hlen; unfold maxLen at hlen | apply And.intro; focus (first | omega | assumption | (repeat' apply And.intro) <;> first | omega | assumption)))
        rw [hI]
        exact ⟨⟨k + 1, hlt, f1', f2, f3, f17, f18, rfl, rfl⟩, by omega⟩
      | false =>
        (repeat (first | refine aSeq fun X hX => ?_ | refine aBlk ?_ | refine aSkip ?_ | (first | refine aExit ?_ | refine aRet ?_); try simp only [slx, ↓reduceIte, Nat.reduceEqDiff, reduceCtorEq] | (first | refine aReg ?_ | refine aIf ?_); simp -implicitDefEqProofs only [forall_eq, ↓slp, slb, ↓reduceIte, reduceCtorEq, jA, jB, jC, jD, jE, jF, jG, jH, jI, jJ, jK, tfNdK, f1', f2, f3, f17, f18, f19, pI, c1]; try simp only [Ex.fold, Ex.foldcs, ← Va.pv.eq_1] | refine hX _ _ ?_; clear hX X | clear hX X; refine hX _ _ ?_; clear hX X | clear hX X; clear hX X; refine hX _ _ ?_; clear hX X | intro hlen; unfold maxLen at hlen | apply And.intro; focus (first | omega | assumption | (repeat' apply And.intro) <;> first | omega | assumption)))
        obtain ⟨J, hJ⟩ : ∃ J : F → M → Prop, ∀ f m', J f m' = (∃ (k : Nat), k ≤ ns.length ∧ f 1 = .ep [.sl .no [], .sl .no (ns.map No.pv)] ∧ f 2 = .bp m.nb 0 ∧ f 3 = .ep [.sl .no [], .sl .no (ns.map No.pv)] ∧ f 35 = .sl .no (ns.map No.pv) ∧ f 36 = pI ns.length ∧ f 37 = pI k ∧ ms = m') := ⟨_, fun _ _ => rfl⟩
        refine aLoop J (fun f m => ns.length - numOf (f 37)) ?_ ?_
        · rw [hJ]; exact ⟨0, by omega, f1', f2, f3, rfl, rfl, rfl, rfl⟩
        clear f1' f2 f3 f17 f18 f19
        intro f m' hrel
        rw [hJ] at hrel
        obtain ⟨k, hk, f1', f2, f3, f35, f36, f37, rfl⟩ := hrel
        cases c2 : decide ((k : Int) < (ns.length : Int)) with
        | true =>
          have hlt : k < ns.length := by simpa using c2
          have g0 := getD_map No.pv ns k hlt
          have hi : IntKind.i64.wrap ((k : Int) + 1) = ((k + 1 : Nat) : Int) := by rw [wrap64 (by omega)]; omega
          have hme : numOf (f 37) = k := by rw [f37]; exact Int.toNat_natCast k
          have hd := hnd k hlt
          generalize ns[k] = n at *
          (repeat (first | refine aSeq fun X hX => ?_ | refine aBlk ?_ | refine aSkip ?_ | (first | refine aExit ?_ | refine aRet ?_); try simp only [slx, ↓reduceIte, Nat.reduceEqDiff, reduceCtorEq] | (first | refine aReg ?_ | refine aIf ?_); simp -implicitDefEqProofs only [forall_eq, ↓slp, slb, ↓reduceIte, reduceCtorEq, jA, jB, jC, jD, jE, jF, jG, jH, jI, jJ, jK, tfNdK, f1', f2, f3, f35, f36, f37, pI, c2, g0]; try simp only [Ex.fold, Ex.foldcs, ← Va.pv.eq_1] | refine hX _ _ ?_; clear hX X | clear hX X; refine hX _ _ ?_; clear hX X | clear hX X; clear hX X; refine hX _ _ ?_; clear hX X | intro hlen; unfold maxLen at hlen | apply And.intro; focus (first | omega | assumption | (repeat' apply And.intro) <;> first | omega | assumption)))
          refine callMS (hd _) (by simp only [List.map_cons, List.map_nil, PV.settle, PV.settles, No.settle_pv]; rfl) ?_
          rintro v mc ⟨rfl, hmc⟩
          subst hmc
          simp -implicitDefEqProofs only [↓slp, slb, ↓reduceIte, reduceCtorEq, jA, jB, jC, jD, jE, jF, jG, jH, jI, jJ, jK, tfNdK]; try simp only [Ex.fold, Ex.foldcs, ← Va.pv.eq_1]
          (repeat (first | refine aSeq fun X hX => ?_ | refine aBlk ?_ | refine aSkip ?_ | (first | refine aExit ?_ | refine aRet ?_); try simp only [slx, ↓reduceIte, Nat.reduceEqDiff, reduceCtorEq] | (first | refine aReg ?_ | refine aIf ?_); simp -implicitDefEqProofs only [forall_eq, ↓slp, slb, ↓reduceIte, reduceCtorEq, jA, jB, jC, jD, jE, jF, jG, jH, jI, jJ, jK, tfNdK, f37, pI, hi]; try simp only [Ex.fold, Ex.foldcs, ← Va.pv.eq_1] | refine hX _ _ ?_; clear hX X | clear hX X; refine hX _ _ ?_; clear hX X | clear hX X; clear hX X; refine hX _ _ ?_; clear hX X | intro hlen; unfold maxLen at hlen | apply And.intro; focus (first | omega | assumption | (repeat' apply And.intro) <;> first | omega | assumption)))
          rw [hJ]
          exact ⟨⟨k + 1, hlt, f1', f2, f3, f35, f36, rfl, rfl⟩, by omega⟩
        | false =>
          (repeat (first | refine aSeq fun X hX => ?_ | refine aBlk ?_ | refine aSkip ?_ | (first | refine aExit ?_ | refine aRet ?_); try simp only [slx, ↓reduceIte, Nat.reduceEqDiff, reduceCtorEq] | (first | refine aReg ?_ | refine aIf ?_); simp -implicitDefEqProofs only [forall_eq, ↓slp, slb, ↓reduceIte, reduceCtorEq, jA, jB, jC, jD, jE, jF, jG, jH, jI, jJ, jK, tfNdK, f1', f2, f3, f35, f36, f37, pI, c2]; try simp only [Ex.fold, Ex.foldcs, ← Va.pv.eq_1] | refine hX _ _ ?_; clear hX X | clear hX X; refine hX _ _ ?_; clear hX X | clear hX X; clear hX X; refine hX _ _ ?_; clear hX X | intro hlen; unfold maxLen at hlen | apply And.intro; focus (first | omega | assumption | (repeat' apply And.intro) <;> first | omega | assumption)))
          obtain ⟨K, hK⟩ : ∃ K : F → M → Prop, ∀ f m', K f m' = (∃ (k : Nat), k ≤ ns.length ∧ loopF S ns (ns.drop k) = FE ∧ f 1 = .ep [.sl .no [], .sl .no (ns.map No.pv)] ∧ f 2 = .bp m.nb 0 ∧ f 46 = .sl .no (ns.map No.pv) ∧ f 47 = pI ns.length ∧ f 48 = pI k ∧ ms = m') := ⟨_, fun _ _ => rfl⟩
          refine aLoop K (fun f m => ns.length - numOf (f 48)) ?_ ?_
          · rw [hK]; exact ⟨0, by omega, hFE, f1', f2, rfl, rfl, rfl, rfl⟩
          clear f1' f2 f3 f35 f36 f37
          intro f m' hrel
          rw [hK] at hrel
          obtain ⟨k, hk, hlf, f1', f2, f46, f47, f48, rfl⟩ := hrel
          cases c3 : decide ((k : Int) < (ns.length : Int)) with
          | true =>
            have hlt : k < ns.length := by simpa using c3
            have g0 := getD_map No.pv ns k hlt
            have hi : IntKind.i64.wrap ((k : Int) + 1) = ((k + 1 : Nat) : Int) := by rw [wrap64 (by omega)]; omega
            have hme : numOf (f 48) = k := by rw [f48]; exact Int.toNat_natCast k
            have hnx := hne ns[k].name
            rw [List.drop_eq_getElem_cons hlt] at hlf
            have hlf2 : (if hasS (needsD S ns ns[k].name) ns[k].name then some (ns[k].line, ns[k].col) else loopF S ns (ns.drop (k + 1))) = FE := hlf
            unfold needsD at hlf2
            obtain ⟨n, hn⟩ : ∃ n, ns[k] = n := ⟨_, rfl⟩
            rw [hn] at hnx hlf2 g0
            generalize needsN (cfN 0 ns) (2 * S.length + 1) [] [n.name] = R at *
            have hcc := hct .no R n.name
            (repeat (first | refine aSeq fun X hX => ?_ | refine aBlk ?_ | refine aSkip ?_ | (first | refine aExit ?_ | refine aRet ?_); try simp only [slx, ↓reduceIte, Nat.reduceEqDiff, reduceCtorEq] | (first | refine aReg ?_ | refine aIf ?_); simp -implicitDefEqProofs only [forall_eq, ↓slp, slb, ↓reduceIte, reduceCtorEq, jA, jB, jC, jD, jE, jF, jG, jH, jI, jJ, jK, tfNdK, f1', f2, f46, f47, f48, pI, c3, g0]; try simp only [Ex.fold, Ex.foldcs, ← Va.pv.eq_1] | refine hX _ _ ?_; clear hX X | clear hX X; refine hX _ _ ?_; clear hX X | clear hX X; clear hX X; refine hX _ _ ?_; clear hX X | intro hlen; unfold maxLen at hlen | apply And.intro; focus (first | omega | assumption | (repeat' apply And.intro) <;> first | omega | assumption)))
            (repeat (first | refine aSeq fun X hX => ?_ | refine aBlk ?_ | refine aSkip ?_ | (first | refine aExit ?_ | refine aRet ?_); try simp only [slx, ↓reduceIte, Nat.reduceEqDiff, reduceCtorEq] | (first | refine aReg ?_ | refine aDrE ?_ | refine aIf ?_); simp -implicitDefEqProofs only [forall_eq, ↓slp, slb, ↓reduceIte, reduceCtorEq, jA, jB, jC, jD, jE, jF, jG, jH, jI, jJ, jK, tfNdK, f1', f2, f46, f47, f48, pI, c3, g0]; try simp only [Ex.fold, Ex.foldcs, ← Va.pv.eq_1] | refine hX _ _ ?_; clear hX X | clear hX X; refine hX _ _ ?_; clear hX X | clear hX X; clear hX X; refine hX _ _ ?_; clear hX X | intro hlen; unfold maxLen at hlen | apply And.intro; focus (first | omega | assumption | (repeat' apply And.intro) <;> first | omega | assumption)))
            refine callM (hnx _) ?_
            rintro v mc ⟨rfl, _, hmc⟩
            subst hmc
            simp -implicitDefEqProofs only [↓slp, slb, ↓reduceIte, reduceCtorEq, jA, jB, jC, jD, jE, jF, jG, jH, jI, jJ, jK, tfNdK]; try simp only [Ex.fold, Ex.foldcs, ← Va.pv.eq_1]
            (repeat (first | refine aSeq fun X hX => ?_ | refine aBlk ?_ | refine aSkip ?_ | (first | refine aExit ?_ | refine aRet ?_); try simp only [slx, ↓reduceIte, Nat.reduceEqDiff, reduceCtorEq] | (first | refine aReg ?_ | refine aDrE ?_ | refine aIf ?_); simp -implicitDefEqProofs only [forall_eq, ↓slp, slb, ↓reduceIte, reduceCtorEq, jA, jB, jC, jD, jE, jF, jG, jH, jI, jJ, jK, tfNdK]; try simp only [Ex.fold, Ex.foldcs, ← Va.pv.eq_1] | refine hX _ _ ?_; clear hX X | clear hX X; refine hX _ _ ?_; clear hX X | clear hX X; clear hX X; refine hX _ _ ?_; clear hX X | intro hlen; unfold maxLen at hlen | apply And.intro; focus (first | omega | assumption | (repeat' apply And.intro) <;> first | omega | assumption)))
            refine callE (hcc _) ?_
            cases hh : hasS R n.name with
            | true =>
              rw [hh, if_pos rfl] at hlf2
              simp -implicitDefEqProofs only [↓slp, slb, ↓reduceIte, reduceCtorEq, jA, jB, jC, jD, jE, jF, jG, jH, jI, jJ, jK, tfNdK, pB, hh]; try simp only [Ex.fold, Ex.foldcs, ← Va.pv.eq_1]
              (repeat (first | refine aSeq fun X hX => ?_ | refine aBlk ?_ | refine aSkip ?_ | (first | refine aExit ?_ | refine aRet ?_); try simp only [slx, ↓reduceIte, Nat.reduceEqDiff, reduceCtorEq] | (first | refine aReg ?_ | refine aIf ?_); simp -implicitDefEqProofs only [forall_eq, ↓slp, slb, ↓reduceIte, reduceCtorEq, jA, jB, jC, jD, jE, jF, jG, jH, jI, jJ, jK, tfNdK, hh]; try simp only [Ex.fold, Ex.foldcs, ← Va.pv.eq_1] | refine hX _ _ ?_; clear hX X | clear hX X; refine hX _ _ ?_; clear hX X | clear hX X; clear hX X; refine hX _ _ ?_; clear hX X | intro hlen; unfold maxLen at hlen | apply And.intro; focus (first | omega | assumption | (repeat' apply And.intro) <;> first | omega | assumption)))
              refine callP (hfl _ _ _) ?_ (fun v m' h => h.elim)
              rintro v m' ⟨rfl, rfl⟩
              exact ⟨n.line, n.col, hlf2.symm, rfl, rfl⟩
            | false =>
              rw [hh, if_neg (by simp)] at hlf2
              simp -implicitDefEqProofs only [↓slp, slb, ↓reduceIte, reduceCtorEq, jA, jB, jC, jD, jE, jF, jG, jH, jI, jJ, jK, tfNdK, pB, hh]; try simp only [Ex.fold, Ex.foldcs, ← Va.pv.eq_1]
              (repeat (first | refine aSeq fun X hX => ?_ | refine aBlk ?_ | refine aSkip ?_ | (first | refine aExit ?_ | refine aRet ?_); try simp only [slx, ↓reduceIte, Nat.reduceEqDiff, reduceCtorEq] | (first | refine aReg ?_ | refine aIf ?_); simp -implicitDefEqProofs only [forall_eq, ↓slp, slb, ↓reduceIte, reduceCtorEq, jA, jB, jC, jD, jE, jF, jG, jH, jI, jJ, jK, tfNdK, hh, f48, pI, hi]; try simp only [Ex.fold, Ex.foldcs, ← Va.pv.eq_1] | refine hX _ _ ?_; clear hX X | clear hX X; refine hX _ _ ?_; clear hX X | clear hX X; clear hX X; refine hX _ _ ?_; clear hX X | intro hlen; unfold maxLen at hlen | apply And.intro; focus (first | omega | assumption | (repeat' apply And.intro) <;> first | omega | assumption)))
              rw [hK]
              exact ⟨⟨k + 1, hlt, hlf2, f1', f2, f46, f47, rfl, rfl⟩, by omega⟩
          | false =>
            have hkk : k = ns.length := by simp at c3; omega
            subst hkk
            rw [List.drop_length] at hlf
            have hF : FE = none := hlf.symm
            (repeat (first | refine aSeq fun X hX => ?_ | refine aBlk ?_ | refine aSkip ?_ | (first | refine aExit ?_ | refine aRet ?_); try simp only [slx, ↓reduceIte, Nat.reduceEqDiff, reduceCtorEq] | (first | refine aReg ?_ | refine aIf ?_); simp -implicitDefEqProofs only [forall_eq, ↓slp, slb, ↓reduceIte, reduceCtorEq, jA, jB, jC, jD, jE, jF, jG, jH, jI, jJ, jK, tfNdK, f2, f46, f47, f48, pI, c3, hgs, hup]; try simp only [Ex.fold, Ex.foldcs, ← Va.pv.eq_1] | refine hX _ _ ?_; clear hX X | clear hX X; refine hX _ _ ?_; clear hX X | clear hX X; clear hX X; refine hX _ _ ?_; clear hX X | intro hlen; unfold maxLen at hlen | apply And.intro; focus (first | omega | assumption | (repeat' apply And.intro) <;> first | omega | assumption)))
            exact ⟨.inr trivial, hF, hms⟩
    · rintro m2 ⟨hF, rfl⟩
      rw [hargs]
      refine (clo_ret _ _).mono ?_
      rintro m3 rfl
      simp only [Tryd.results8, aRes_n, aRes_t, aRes_c]
      simp -implicitDefEqProofs only [↓slp, slb, ↓reduceIte, reduceCtorEq, jA, jB, jC, jD, jE, jF, jG, jH, jI, jJ, jK, tfNdK, k2, hgs]; try simp only [Ex.fold, Ex.foldcs, ← Va.pv.eq_1]
      rw [hF]
      exact ⟨rfl, hms.symm⟩
    · rintro v m2 ⟨l, c, hF, rfl, rfl⟩
      rw [hargs]
      refine (clo_pan m.nb _ l c 6 _ hgs).mono ?_
      rintro m3 rfl
      simp only [Tryd.results8, aRes_n, aRes_t, aRes_c]
      rw [hup]
      have hg3 : (m.ext [some [pA l c 6]]).get m.nb = some [pA l c 6] := ext_get (i := 0) rfl
      simp -implicitDefEqProofs only [↓slp, slb, ↓reduceIte, reduceCtorEq, jA, jB, jC, jD, jE, jF, jG, jH, jI, jJ, jK, tfNdK, k2, hg3]; try simp only [Ex.fold, Ex.foldcs, ← Va.pv.eq_1]
      rw [hF]
      exact ⟨rfl, rfl⟩
end Go.Proofs.YteiaedmipkcfeaaDoor
