/-
 The law TreePrograms.
-/
-- halved
import Derived.Test.YtibhhoknipdlpaaOU
import Derived.Test.YtibhhoknipdlpaaTpV
import Derived.Test.YtibhhoknipdlpaaTpB
import Derived.Test.YtibhhoknipdlpaaTpF
import Derived.Test.YtibhhoknipdlpaaHH
import Derived.Test.YtibhhoknipdlpaaTpI
import Derived.Test.YtibhhoknipdlpaaTpX
set_option linter.unusedVariables false
set_option linter.unusedSimpArgs false
namespace Go.Proofs.Ytibhhoknipdlpaa
open Nat renaming reduceEqDiff → jA, reduceAdd → jB, reduceMul → jC, reduceLT → jD, reduceLeDiff → jE, reduceBEq → jF, reduceBNe → jG
open Int renaming reduceLE → jH, reduceLT → jI, reduceToNat → jJ, reduceEq → jK
open Go
-- EXX: No.settle_pv, No.pure_pv, No.cells_pv, No.cs, Qu.settle_pv, Qu.pure_pv, Qu.cells_pv, Qu.cs, En.settle_pv, En.pure_pv, En.cells_pv, En.cs
set_option maxRecDepth 20000
-- TNAMES: int; uint8; uint16; int32; string; bool; []string; []uint8; []api.Expr; api.Expr; api.Pos; api.Type; []api.On; api.Var; []api.Var; api.Equation; []api.Equation; api.Trans; []api.Trans; api.Arm; []api.Arm; api.Block; api.Node; []api.Node; api.Enum; []api.Enum; api.Program
set_option linter.defProp false
def Yo := And.intro @slb (And.intro @tfA (And.intro @Ex.settle_pv (And.intro @Ex.pure_pv (And.intro @Ex.cells_pv (And.intro @Ex.cs.eq_1 (And.intro @On.pv.eq_1 (And.intro @Ty.pv.eq_1 (And.intro @Va.settle_pv (And.intro @Va.pure_pv (And.intro @Va.cells_pv (And.intro @Va.cs.eq_1 (And.intro @No.settle_pv (And.intro @No.pure_pv (And.intro @No.cells_pv (And.intro @No.cs.eq_1 (And.intro @Qu.settle_pv (And.intro @Qu.pure_pv (And.intro @Qu.cells_pv (And.intro @Qu.cs.eq_1 (And.intro @En.settle_pv (And.intro @En.pure_pv (And.intro @En.cells_pv @En.cs.eq_1))))))))))))))))))))))

theorem bsize_any : ∀ (d : Nat) (V : List Va) (Q : List Qu), DpB d Q → wtF d V Q < 2 ^ 30 → ∀ m : M, ACalls Try.prog 39 [bkP2 V Q] m (fun v m' => v = pI (szF d V Q) ∧ m' = m)
 | 0, V, Q, h, hw, m => sz_step V Q (by have := wt_eqs (fun _ _ => 0) V Q; unfold wtF at hw; omega) (fun q hq a ha => by rw [h q hq] at ha; cases ha) m
 | d + 1, V, Q, h, hw, m => sz_step V Q (by have := wt_eqs (wtF d) V Q; unfold wtF at hw; omega) (fun q hq a ha => by
     have h1 := wt_arm (wb := wtF d) ha
     have h2 := wt_eq (wb := wtF d) (V := V) hq
     unfold wtF at hw
     have h3 : wtA (wtF d) a = 1 + a.unl.length + a.til.length + wtF d a.vars a.eqs := rfl
     exact ⟨by omega, fun m => bsize_any d _ _ (h q hq a ha) (by omega) m⟩) m
theorem bdepth_any : ∀ (d : Nat) (V : List Va) (Q : List Qu), DpB d Q → wtF d V Q < 2 ^ 30 → ∀ m : M, ACalls Try.prog 40 [bkP2 V Q] m (fun v m' => v = pI (dpF d V Q) ∧ m' = m)
 | 0, V, Q, h, hw, m => dp_step V Q (by have := wt_eqs (fun _ _ => 0) V Q; unfold wtF at hw; omega) (fun q hq a ha => by rw [h q hq] at ha; cases ha) m
 | d + 1, V, Q, h, hw, m => dp_step V Q (by have := wt_eqs (wtF d) V Q; unfold wtF at hw; omega) (fun q hq a ha => by
     have h1 := wt_arm (wb := wtF d) ha
     have h2 := wt_eq (wb := wtF d) (V := V) hq
     unfold wtF at hw
     have h3 : wtA (wtF d) a = 1 + a.unl.length + a.til.length + wtF d a.vars a.eqs := rfl
     exact ⟨by omega, fun m => bdepth_any d _ _ (h q hq a ha) (by omega) m⟩) m
theorem wt_args (wb : WbT) (q : Qu) : q.args.length ≤ wtQ wb q := by unfold wtQ; omega
theorem rmeasure_any : ∀ (d : Nat) (V : List Va) (Q : List Qu), DpB d Q → wtF d V Q < 2 ^ 30 → ∀ m : M, ACalls Try.prog 38 [bkP2 V Q] m (fun v m' => v = .tp [pI (szF d V Q), pI (dpF d V Q)] ∧ m' = m)
 | 0, V, Q, h, hw, m => rMeasure_step (ss := fun _ _ => 0) (sd := fun _ _ => 0) V Q (fun q hq => ⟨by have := wt_args (fun _ _ => 0) q; have := wt_eq (wb := fun _ _ => 0) (V := V) hq; unfold wtF at hw; omega, fun a ha => by rw [h q hq] at ha; cases ha⟩) m
 | d + 1, V, Q, h, hw, m => rMeasure_step (ss := szF d) (sd := dpF d) V Q (fun q hq => ⟨by have := wt_args (wtF d) q; have := wt_eq (wb := wtF d) (V := V) hq; unfold wtF at hw; omega, fun a ha m => by
     have h1 := wt_arm (wb := wtF d) ha
     have h2 := wt_eq (wb := wtF d) (V := V) hq
     unfold wtF at hw
     have h3 : wtA (wtF d) a = 1 + a.unl.length + a.til.length + wtF d a.vars a.eqs := rfl
     exact rmeasure_any d _ _ (h q hq a ha) (by omega) m⟩) m
theorem sameL_rfl {α : Type} {R : α → α → Bool} : ∀ (l : List α), (∀ x ∈ l, R x x = true) → sameL R l l = true
 | [], _ => rfl
 | a :: l, h => by
  simp only [sameL, Bool.and_eq_true]
  exact ⟨h a (List.mem_cons_self ..), sameL_rfl l (fun x hx => h x (List.mem_cons_of_mem _ hx))⟩
theorem eqS_rfl (s : Str) : eqS s s = true := eqS_iff.2 rfl
theorem sameSs_rfl (l : List Str) : sameL eqS l l = true := sameL_rfl l (fun x _ => eqS_rfl x)
theorem smT_rfl (t : Tr) : smT t t = true := by unfold smT; rw [eqS_rfl, Ex.same_refl]; simp
theorem Va.same_rfl (v : Va) : v.same v = true := by
 have h2 : v.t.eq v.t = true := by simp [Ty.eq, eqS_rfl]
 have h3 : sameL On.eq v.clock v.clock = true := sameL_rfl _ (fun o _ => by simp [On.eq, eqS_rfl])
 show (eqS v.name v.name && v.t.eq v.t && sameL On.eq v.clock v.clock && (v.last == v.last) && v.first.same v.first) = true
 rw [eqS_rfl, h2, h3, Ex.same_refl]; simp
theorem smA_rfl {sb : SbT} (a : Am) (h : sb a.vars a.eqs a.vars a.eqs = true) : smA sb a a = true := by
 unfold smA
 rw [eqS_rfl, h, sameL_rfl _ (fun t _ => smT_rfl t), sameL_rfl _ (fun t _ => smT_rfl t)]; rfl
theorem smQ_rfl {sb : SbT} (q : Qu) (h : ∀ a ∈ q.arms, sb a.vars a.eqs a.vars a.eqs = true) : smQ sb q q = true := by
 unfold smQ
 rw [sameSs_rfl, eqS_rfl, sameL_rfl q.args (fun e _ => Ex.same_refl e), Ex.same_refl, sameL_rfl q.arms (fun a ha => smA_rfl a (h a ha))]; simp
theorem smB_rfl {sb : SbT} (V : List Va) (Q : List Qu) (h : ∀ q ∈ Q, ∀ a ∈ q.arms, sb a.vars a.eqs a.vars a.eqs = true) : smB sb V Q V Q = true := by
 unfold smB
 rw [sameL_rfl V (fun v _ => Va.same_rfl v), sameL_rfl Q (fun q hq => smQ_rfl q (h q hq))]; rfl
theorem smF_rfl : ∀ (d : Nat) (V : List Va) (Q : List Qu), DpB d Q → smF d V Q V Q = true
 | 0, V, Q, h => smB_rfl V Q (fun q hq a ha => by rw [h q hq] at ha; cases ha)
 | d + 1, V, Q, h => smB_rfl V Q (fun q hq a ha => smF_rfl d _ _ (h q hq a ha))
theorem smN_rfl {d : Nat} (n : No) (h : DpB d n.b.eqs) : smN d n n = true := by
 unfold smN
 rw [eqS_rfl, sameL_rfl n.ins (fun v _ => Va.same_rfl v), sameL_rfl n.outs (fun v _ => Va.same_rfl v), smF_rfl d _ _ h]; rfl
theorem addS_nd {l : List Str} {s : Str} (h : l.Nodup) : (addS l s).Nodup := by
 unfold addS
 split
 ·exact h
 ·rename_i h2
  rw [hasS_iff] at h2
  exact List.nodup_append.2 ⟨h, by simp, fun a ha b hb => by simp at hb; subst hb; exact fun e => h2 (e ▸ ha)⟩
theorem addL_nd : ∀ (r : List Str) {l : List Str}, l.Nodup → (addL l r).Nodup
 | [], l, h => h
 | s :: r, l, h => addL_nd r (addS_nd h)
theorem callsA_nd {cf : List Qu → List Str} : ∀ (ar : List Am) {l : List Str}, l.Nodup → (callsA cf l ar).Nodup
 | [], l, h => h
 | a :: ar, l, h => callsA_nd ar (addL_nd _ h)
theorem callsL_nd {cf : List Qu → List Str} : ∀ (Q : List Qu) {l : List Str}, l.Nodup → (Q.foldl (callsQ cf) l).Nodup
 | [], l, h => h
 | q :: Q, l, h => callsL_nd Q (by unfold callsQ; split; exact callsA_nd _ (addS_nd h); exact callsA_nd _ h)
theorem callsF_nd : ∀ (d : Nat) (Q : List Qu), (callsF d Q).Nodup
 | 0, Q => callsL_nd Q List.nodup_nil
 | d + 1, Q => callsL_nd Q List.nodup_nil
theorem addL_app : ∀ (r a : List Str), (a ++ r).Nodup → addL a r = a ++ r
 | [], a, _ => by simp [addL]
 | s :: r, a, h => by
  have h1 : addS a s = a ++ [s] := by
   unfold addS
   rw [if_neg]
   rw [hasS_iff]
   exact fun hm => (List.nodup_append.1 h).2.2 s hm s (List.mem_cons_self ..) rfl
  show addL (addS a s) r = _
  rw [h1, addL_app r (a ++ [s]) (by simpa using h)]
  simp
def enCol : En := ⟨sCol, [sRed, sGreen, sBlue], 0, 0⟩
set_option maxHeartbeats 16000000 in
theorem programs_any (l l2 : List Int) (hel : ∀ x ∈ l, 0 ≤ x ∧ x ≤ 255) (hel2 : ∀ x ∈ l2, 0 ≤ x ∧ x ≤ 255) (at' how : Int) (hat : 0 ≤ at' ∧ at' ≤ 65535) (hhow : 0 ≤ how ∧ how ≤ 255) (m : M) :
    ACalls Try.prog 7 [.sl .no (l.map pU), .sl .no (l2.map pU), .v (.int .u16 at'), .v (.int .u8 how)] m (fun v m' => v = .v (.bool true)) := by
 refine ACalls.enter (mu := []) ok_mix Try.func7 rfl (by kernel_rfl) (by kernel_rfl) (by simp only [List.length_cons, List.length_nil, Try.ntmps7]; omega) ?_
 have out : ∀ X : Nat, True := fun _ => trivial
 cases c1 : decide ((l.length : Int) > 400) with
 | true =>
  (repeat (first | refine aSeq fun X hX => ?_ | refine aReg ?_; simp -implicitDefEqProofs only [↓slp, slb] | apply hX; clear hX X))
  refine callE (awake_any _) ?_
  simp -implicitDefEqProofs only [↓slp, ↓reduceIte, reduceCtorEq, jA, Yo, c1]
  (repeat (apply hX; clear hX X))
  refine aIf ?_; simp -implicitDefEqProofs only [slb, ↓reduceIte, reduceCtorEq]
  (repeat (first | refine aSeq fun X hX => ?_ | refine aReg ?_; simp -implicitDefEqProofs only [↓slp, slb]))
  refine callE (awake_any _) ?_
  simp -implicitDefEqProofs only [↓slp, slb, ↓reduceIte]
  (repeat (first | refine aRet ?_; try simp only [slx, ↓reduceIte, jA, reduceCtorEq] | apply hX; clear hX X))
  simp only [aPost, Try.results7, aRes_n, aRes_t, aRes_c, pack_one, pack_two]
  exact leave_same rfl rfl
 | false =>
 cases c2 : decide ((l2.length : Int) > 400) with
 | true =>
  (repeat (first | refine aSeq fun X hX => ?_ | refine aReg ?_; simp -implicitDefEqProofs only [↓slp, slb] | apply hX; clear hX X))
  refine callE (awake_any _) ?_
  simp -implicitDefEqProofs only [↓slp, ↓reduceIte, reduceCtorEq, jA, Yo, c1, c2]
  (repeat (apply hX; clear hX X))
  refine aIf ?_; simp -implicitDefEqProofs only [slb, ↓reduceIte, reduceCtorEq]
  (repeat (first | refine aSeq fun X hX => ?_ | refine aReg ?_; simp -implicitDefEqProofs only [↓slp, slb]))
  refine callE (awake_any _) ?_
  simp -implicitDefEqProofs only [↓slp, slb, ↓reduceIte]
  (repeat (first | refine aRet ?_; try simp only [slx, ↓reduceIte, jA, reduceCtorEq] | apply hX; clear hX X))
  simp only [aPost, Try.results7, aRes_n, aRes_t, aRes_c, pack_one, pack_two]
  exact leave_same rfl rfl
 | false =>
 (repeat (first | refine aSeq fun X hX => ?_ | refine aReg ?_; simp -implicitDefEqProofs only [↓slp, slb] | apply hX; clear hX X))
 refine callE (awake_any _) ?_
 simp -implicitDefEqProofs only [↓slp, ↓reduceIte, reduceCtorEq, jA, Yo, c1, c2]
 (repeat (first | refine aSeq fun X hX => ?_ | refine aSkip ?_ | (first | apply aReg | apply aIf); simp -implicitDefEqProofs only [↓slp, slb, ↓reduceIte, reduceCtorEq] | apply hX; clear hX X))
 refine callM (make_any l (by simp at c1; omega) hel _) ?_
 rintro v m' ⟨ns, rfl, hnl, hns, hmm⟩; subst hmm
 have hw1 := made_w hns
 simp -implicitDefEqProofs only [↓slp, ↓reduceIte, jB, jF, Yo]
 (repeat (first | refine aSeq fun X hX => ?_ | refine aReg ?_; simp -implicitDefEqProofs only [↓slp, slb, ↓reduceIte, jA] | apply hX; clear hX X))
 refine callM (make_any l2 (by simp at c2; omega) hel2 _) ?_
 rintro v m' ⟨ns2, rfl, hnl2, hns2, hmm⟩; subst hmm
 have hw2 := made_w hns2
 simp -implicitDefEqProofs only [↓slp, ↓reduceIte, jB, jF, Yo]
 (repeat (first | refine aSeq fun X hX => ?_ | refine aReg ?_; simp -implicitDefEqProofs only [↓slp, ↓reduceIte, jA, jB, jE, Yo] | apply hX; clear hX X))
 refine callM (spoil_any (d := 3) (W := 40000000) [enCol] ns (by omega) (fun n hn => (hw1 n hn).1) (fun n hn => (hw1 n hn).2) at' how hat hhow _) ?_
 rintro v m' ⟨⟨ss, rfl, hsl, hss⟩, hmm⟩; subst hmm
 simp -implicitDefEqProofs only [↓slp, ↓reduceIte, jB, jF, Yo]
 (repeat (first | refine aSeq fun X hX => ?_ | refine aDrE ?_; simp -implicitDefEqProofs only [↓slp, ↓reduceIte, jA, jB, jE, Yo] | apply hX; clear hX X))
 refine callE (same_any (d := 3) [enCol] ns [enCol] ns2 (fun n hn => (hw1 n hn).2.1) _) ?_
 generalize hb1 : (sameL smE [enCol] [enCol] && sameL (smN 3) ns ns2) = b1
 simp -implicitDefEqProofs only [↓slp, ↓reduceIte, jA, jB, jE, Yo]
 (repeat (first | refine aSeq fun X hX => ?_ | apply aBlk | refine aSkip ?_ | (first | refine aExit ?_ | refine aRet ?_); try simp only [slx, ↓reduceIte, jA, reduceCtorEq] | (first | apply aReg | refine aDrE ?_); simp -implicitDefEqProofs only [forall_eq, ↓slp, ↓reduceIte, reduceCtorEq, jA, jB, jC, jD, jE, jF, jG, jH, jI, jJ, jK, Yo]; try simp only [fo] | apply hX; clear hX X | clear hX X; apply hX; clear hX X | clear hX X; clear hX X; apply hX; clear hX X | intro hlen; unfold maxLen at hlen | apply And.intro; · first | assumption | and_intros <;> first | omega | assumption))
 refine callE (rSame_any (d := 3) [enCol] ns [enCol] ns2 (fun n hn => (hw1 n hn).2.1) _) ?_
 rw [hb1]
 simp -implicitDefEqProofs only [↓slp, ↓reduceIte, jA, jB, jE, Yo]
 (repeat (first | refine aSeq fun X hX => ?_ | apply aBlk | refine aSkip ?_ | (first | refine aExit ?_ | refine aRet ?_); try simp only [slx, ↓reduceIte, jA, reduceCtorEq] | (first | apply aReg | refine aDrE ?_); simp -implicitDefEqProofs only [forall_eq, ↓slp, ↓reduceIte, reduceCtorEq, jA, jB, jC, jD, jE, jF, jG, jH, jI, jJ, jK, Yo]; try simp only [fo] | apply hX; clear hX X | clear hX X; apply hX; clear hX X | clear hX X; clear hX X; apply hX; clear hX X | intro hlen; unfold maxLen at hlen | apply And.intro; · first | assumption | and_intros <;> first | omega | assumption))
 refine callE (same_any (d := 3) [enCol] ns [enCol] ss (fun n hn => (hw1 n hn).2.1) _) ?_
 generalize hb2 : (sameL smE [enCol] [enCol] && sameL (smN 3) ns ss) = b2
 simp -implicitDefEqProofs only [↓slp, ↓reduceIte, jA, jB, jE, Yo]
 (repeat (first | refine aSeq fun X hX => ?_ | apply aBlk | refine aSkip ?_ | (first | refine aExit ?_ | refine aRet ?_); try simp only [slx, ↓reduceIte, jA, reduceCtorEq] | (first | apply aReg | refine aDrE ?_); simp -implicitDefEqProofs only [forall_eq, ↓slp, ↓reduceIte, reduceCtorEq, jA, jB, jC, jD, jE, jF, jG, jH, jI, jJ, jK, Yo]; try simp only [fo] | apply hX; clear hX X | clear hX X; apply hX; clear hX X | clear hX X; clear hX X; apply hX; clear hX X | intro hlen; unfold maxLen at hlen | apply And.intro; · first | assumption | and_intros <;> first | omega | assumption))
 refine callE (rSame_any (d := 3) [enCol] ns [enCol] ss (fun n hn => (hw1 n hn).2.1) _) ?_
 rw [hb2]
 simp -implicitDefEqProofs only [↓slp, ↓reduceIte, jA, jB, jE, Yo]
 (repeat (first | refine aSeq fun X hX => ?_ | apply aBlk | refine aSkip ?_ | (first | refine aExit ?_ | refine aRet ?_); try simp only [slx, ↓reduceIte, jA, reduceCtorEq] | (first | apply aReg | refine aDrE ?_); simp -implicitDefEqProofs only [forall_eq, ↓slp, ↓reduceIte, reduceCtorEq, jA, jB, jC, jD, jE, jF, jG, jH, jI, jJ, jK, Yo]; try simp only [fo] | apply hX; clear hX X | clear hX X; apply hX; clear hX X | clear hX X; clear hX X; apply hX; clear hX X | intro hlen; unfold maxLen at hlen | apply And.intro; · first | assumption | and_intros <;> first | omega | assumption))
 refine callM (placedP_any (d := 3) [enCol] (by decide) ns (by omega) (fun n hn => (hw1 n hn).1) _) ?_
 rintro v m' ⟨⟨E', l', rfl, hpl⟩, hmm⟩; subst hmm
 simp -implicitDefEqProofs only [↓slp, slb, ↓reduceIte, jA]
 (repeat (first | refine aSeq fun X hX => ?_ | apply aBlk | refine aSkip ?_ | (first | refine aExit ?_ | refine aRet ?_); try simp only [slx, ↓reduceIte, jA, reduceCtorEq] | (first | apply aReg | refine aDrE ?_); simp -implicitDefEqProofs only [forall_eq, ↓slp, ↓reduceIte, reduceCtorEq, jA, jB, jC, jD, jE, jF, jG, jH, jI, jJ, jK, Yo]; try simp only [fo] | apply hX; clear hX X | clear hX X; apply hX; clear hX X | clear hX X; clear hX X; apply hX; clear hX X | intro hlen; unfold maxLen at hlen | apply And.intro; · first | assumption | and_intros <;> first | omega | assumption))
 refine callE (same_any (d := 3) [enCol] ns E' l' (fun n hn => (hw1 n hn).2.1) _) ?_
 rw [hpl]
 simp -implicitDefEqProofs only [↓slp, slb, ↓reduceIte, jA]
 (repeat (apply hX; clear hX X))
 (repeat (first | refine aSeq fun X hX => ?_ | refine aBlk ?_ | refine aSkip ?_ | (first | apply aReg | apply aIf); simp -implicitDefEqProofs only [↓slp, slb, ↓reduceIte, pB] | apply hX; clear hX X))
 obtain ⟨I, hI⟩ : ∃ I : F → M → Prop, ∀ f m2, I f m2 = (∃ i : Nat, i ≤ ss.length ∧ f 9 = .ep [.sl .no [.ag colC], .sl .no (ns.map No.pv)] ∧ f 11 = .ep [.sl .no [En.pv enCol], .sl .no (ss.map No.pv)] ∧ f 12 = pI i ∧ m2 = m') := ⟨_, fun _ _ => rfl⟩
 refine aLoop I (fun f m => ss.length - numOf (f 12)) ?_ ?_
 ·rw [hI]; exact ⟨0, Nat.zero_le _, rfl, rfl, rfl, rfl⟩
 intro f m2 hrel
 rw [hI] at hrel
 obtain ⟨i, hi, f9, f11, f12, rfl⟩ := hrel
 cases c3 : decide ((i : Int) < (ss.length : Int)) with
 | false =>
  (repeat (first | refine aSeq fun X hX => ?_ | (first | refine aExit ?_ | refine aRet ?_); try simp only [slx, ↓reduceIte, jA, reduceCtorEq] | (first | apply aReg | apply aIf); simp -implicitDefEqProofs only [↓slp, ↓reduceIte, reduceCtorEq, jA, jB, jE, Yo, f11, f12, c3, pI] | apply hX; clear hX X | clear hX X; apply hX; clear hX X | intro hlen; unfold maxLen at hlen))
  simp only [aPost, Try.results7, aRes_n, aRes_t, aRes_c, pack_one, pack_two]
  exact leave_same rfl rfl
 | true =>
 have hlt : i < ss.length := by simpa using c3
 have hlt2 : i < ns.length := by omega
 have hg := getD_map No.pv ss i hlt
 have hg2 := getD_map No.pv ns i hlt2
 have hii : IntKind.i64.wrap ((i : Int) + 1) = ((i + 1 : Nat) : Int) := by rw [wrap64 (by omega)]; omega
 have hme : numOf (f 12) = i := by rw [f12]; exact Int.toNat_natCast i
 obtain ⟨hd, hw⟩ := hss _ (List.getElem_mem hlt)
 obtain ⟨hnw0, hd0, hw0⟩ := hw1 _ (List.getElem_mem hlt2)
 have hw' : wtF 3 ss[i].b.vars ss[i].b.eqs < 2 ^ 30 := by omega
 have c4 : decide ((i : Int) < (ns.length : Int)) = true := by simpa using hlt2
 generalize ss[i] = x at *
 generalize ns[i] = y at *
 (repeat (first | refine aSeq fun X hX => ?_ | refine aSkip ?_ | (first | apply aReg | apply aIf); simp -implicitDefEqProofs only [↓slp, ↓reduceIte, reduceCtorEq, jA, jB, jE, jF, Yo, f11, f12, c3, pI, hg] | apply hX; clear hX X | intro hlen; unfold maxLen at hlen | apply And.intro; focus omega))
 refine callE (rmeasure_any 3 x.b.vars x.b.eqs hd hw' _) ?_
 have hsz := bsize_any 3 x.b.vars x.b.eqs hd hw'
 have hdp := bdepth_any 3 x.b.vars x.b.eqs hd hw'
 generalize szF 3 x.b.vars x.b.eqs = sz at *
 generalize dpF 3 x.b.vars x.b.eqs = dp at *
 have hbd := bdefines_any 3 x.b.vars x.b.eqs hd (by omega)
 have hrd := rbdefines_any 3 x.b.vars x.b.eqs hd (by omega)
 have hlq := wt_eqs (wtF 2) x.b.vars x.b.eqs
 have hlq2 : wtF 3 x.b.vars x.b.eqs = wtB (wtF 2) x.b.vars x.b.eqs := rfl
 have hca := calls_any 3 x.b.vars x.b.eqs hd (by omega)
 have hrc := rcalls_any 3 x.b.vars x.b.eqs hd (by omega) [] (by simp; omega)
 simp -implicitDefEqProofs only [↓slp, slb, ↓reduceIte, jA, jB, f12, pI]
 (repeat (first | refine aSeq fun X hX => ?_ | apply hX; clear hX X))
 (repeat (refine aDrE ?_; simp -implicitDefEqProofs only [↓slp, ↓reduceIte, jA, jB, jE, Yo]))
 refine callE (hsz _) ?_
 simp -implicitDefEqProofs only [↓slp, ↓reduceIte, jA, jB, jE, Yo, pI]
 (repeat (first | refine aSeq fun X hX => ?_ | apply aBlk | refine aSkip ?_ | (first | refine aExit ?_ | refine aRet ?_); try simp only [slx, ↓reduceIte, jA, reduceCtorEq] | (first | apply aReg | refine aDrE ?_); simp -implicitDefEqProofs only [forall_eq, ↓slp, ↓reduceIte, reduceCtorEq, jA, jB, jC, jD, jE, jF, jG, jH, jI, jJ, jK, Yo, f9, f11, f12, pI]; try simp only [fo] | apply hX; clear hX X | clear hX X; apply hX; clear hX X | clear hX X; clear hX X; apply hX; clear hX X | intro hlen; unfold maxLen at hlen | apply And.intro; · first | assumption | and_intros <;> first | omega | assumption))
 refine callE (hdp _) ?_
 simp -implicitDefEqProofs only [↓slp, ↓reduceIte, jA, jB, jE, Yo, pI]
 (repeat (first | refine aSeq fun X hX => ?_ | apply aBlk | refine aSkip ?_ | (first | refine aExit ?_ | refine aRet ?_); try simp only [slx, ↓reduceIte, jA, reduceCtorEq] | (first | apply aReg | refine aDrE ?_); simp -implicitDefEqProofs only [forall_eq, ↓slp, ↓reduceIte, reduceCtorEq, jA, jB, jC, jD, jE, jF, jG, jH, jI, jJ, jK, Yo, f9, f11, f12, pI]; try simp only [fo] | apply hX; clear hX X | clear hX X; apply hX; clear hX X | clear hX X; clear hX X; apply hX; clear hX X | intro hlen; unfold maxLen at hlen | apply And.intro; · first | assumption | and_intros <;> first | omega | assumption))
 refine callE (hbd.2 _) ?_
 simp -implicitDefEqProofs only [↓slp, ↓reduceIte, jA, jB, jE, Yo, pI]
 (repeat (first | refine aSeq fun X hX => ?_ | apply aBlk | refine aSkip ?_ | (first | refine aExit ?_ | refine aRet ?_); try simp only [slx, ↓reduceIte, jA, reduceCtorEq] | (first | apply aReg | refine aDrE ?_); simp -implicitDefEqProofs only [forall_eq, ↓slp, ↓reduceIte, reduceCtorEq, jA, jB, jC, jD, jE, jF, jG, jH, jI, jJ, jK, Yo, f9, f11, f12, pI]; try simp only [fo] | apply hX; clear hX X | clear hX X; apply hX; clear hX X | clear hX X; clear hX X; apply hX; clear hX X | intro hlen; unfold maxLen at hlen | apply And.intro; · first | assumption | and_intros <;> first | omega | assumption))
 refine callE (hrd _) ?_
 simp -implicitDefEqProofs only [↓slp, slb, ↓reduceIte, jA, pI]
 (repeat (first | refine aSeq fun X hX => ?_ | apply aBlk | refine aSkip ?_ | (first | refine aExit ?_ | refine aRet ?_); try simp only [slx, ↓reduceIte, jA, reduceCtorEq] | (first | apply aReg | refine aDrE ?_); simp -implicitDefEqProofs only [forall_eq, ↓slp, ↓reduceIte, reduceCtorEq, jA, jB, jC, jD, jE, jF, jG, jH, jI, jJ, jK, Yo, f9, f11, f12, pI]; try simp only [fo] | apply hX; clear hX X | clear hX X; apply hX; clear hX X | clear hX X; clear hX X; apply hX; clear hX X | intro hlen; unfold maxLen at hlen | apply And.intro; · first | assumption | and_intros <;> first | omega | assumption))
 refine callE (sameNames_any _ _ _ _ _) ?_
 rw [sameSs_rfl]
 simp -implicitDefEqProofs only [↓slp, ↓reduceIte, jA, jB, jE, Yo, pI]
 (repeat (first | refine aSeq fun X hX => ?_ | apply aBlk | refine aSkip ?_ | (first | refine aExit ?_ | refine aRet ?_); try simp only [slx, ↓reduceIte, jA, reduceCtorEq] | (first | apply aReg | refine aDrE ?_); simp -implicitDefEqProofs only [forall_eq, ↓slp, ↓reduceIte, reduceCtorEq, jA, jB, jC, jD, jE, jF, jG, jH, jI, jJ, jK, Yo, f9, f11, f12, pI]; try simp only [fo] | apply hX; clear hX X | clear hX X; apply hX; clear hX X | clear hX X; clear hX X; apply hX; clear hX X | intro hlen; unfold maxLen at hlen | apply And.intro; · first | assumption | and_intros <;> first | omega | assumption))
 refine callE (hca.2 _) ?_
 simp -implicitDefEqProofs only [↓slp, ↓reduceIte, jA, jB, jE, Yo, pI]
 (repeat (first | refine aSeq fun X hX => ?_ | apply aBlk | refine aSkip ?_ | (first | refine aExit ?_ | refine aRet ?_); try simp only [slx, ↓reduceIte, jA, reduceCtorEq] | (first | apply aReg | refine aDrE ?_); simp -implicitDefEqProofs only [forall_eq, ↓slp, ↓reduceIte, reduceCtorEq, jA, jB, jC, jD, jE, jF, jG, jH, jI, jJ, jK, Yo, f9, f11, f12, pI]; try simp only [fo] | apply hX; clear hX X | clear hX X; apply hX; clear hX X | clear hX X; clear hX X; apply hX; clear hX X | intro hlen; unfold maxLen at hlen | apply And.intro; · first | assumption | and_intros <;> first | omega | assumption))
 refine callMS (hrc _) rfl ?_
 rintro v m' ⟨rfl, hmm⟩
 subst hmm
 rw [addL_app _ [] (by simpa using callsF_nd 3 x.b.eqs), List.nil_append]
 simp -implicitDefEqProofs only [↓slp, slb, ↓reduceIte, jA, pI]
 (repeat (first | refine aSeq fun X hX => ?_ | apply aBlk | refine aSkip ?_ | (first | refine aExit ?_ | refine aRet ?_); try simp only [slx, ↓reduceIte, jA, reduceCtorEq] | (first | apply aReg | refine aDrE ?_); simp -implicitDefEqProofs only [forall_eq, ↓slp, ↓reduceIte, reduceCtorEq, jA, jB, jC, jD, jE, jF, jG, jH, jI, jJ, jK, Yo, f9, f11, f12, pI]; try simp only [fo] | apply hX; clear hX X | clear hX X; apply hX; clear hX X | clear hX X; clear hX X; apply hX; clear hX X | intro hlen; unfold maxLen at hlen | apply And.intro; · first | assumption | and_intros <;> first | omega | assumption))
 refine callE (sameNames_any _ _ _ _ _) ?_
 rw [sameSs_rfl]
 simp -implicitDefEqProofs only [↓slp, slb, ↓reduceIte, jA, f12, pI]
 (repeat (apply hX; clear hX X))
 (repeat (first | refine aSeq fun X hX => ?_ | refine aBlk ?_ | refine aSkip ?_ | (first | apply aReg | apply aIf); simp -implicitDefEqProofs only [↓slp, slb, ↓reduceIte, f12, pI, pB] | apply hX; clear hX X))
 obtain ⟨J, hJ⟩ : ∃ J : F → M → Prop, ∀ f m2, J f m2 = (∃ k : Nat, k ≤ x.b.eqs.length ∧ f 9 = .ep [.sl .no [.ag colC], .sl .no (ns.map No.pv)] ∧ f 11 = .ep [.sl .no [En.pv enCol], .sl .no (ss.map No.pv)] ∧ f 12 = pI i ∧ f 13 = .ep [.sl .no (x.b.vars.map Va.pv), .sl .no (x.b.eqs.map Qu.pv)] ∧ f 16 = pI k ∧ m2 = m') := ⟨_, fun _ _ => rfl⟩
 refine aLoop J (fun f m => x.b.eqs.length - numOf (f 16)) ?_ ?_
 ·rw [hJ]; exact ⟨0, Nat.zero_le _, f9, f11, f12, rfl, rfl, rfl⟩
 clear f9 f11 f12
 intro f m2 hrel
 rw [hJ] at hrel
 obtain ⟨k, hk, f9, f11, f12, f13, f16, rfl⟩ := hrel
 cases c5 : decide ((k : Int) < (x.b.eqs.length : Int)) with
 | true =>
  have hkl : k < x.b.eqs.length := by simpa using c5
  have hgk := getD_map Qu.pv x.b.eqs k hkl
  have hki : IntKind.i64.wrap ((k : Int) + 1) = ((k + 1 : Nat) : Int) := by rw [wrap64 (by omega)]; omega
  have hkm : numOf (f 16) = k := by rw [f16]; exact Int.toNat_natCast k
  have hqm := List.getElem_mem hkl
  have hqd : ∀ a ∈ x.b.eqs[k].arms, DpB 2 a.eqs := hd _ hqm
  have hqw : wtQ (wtF 2) x.b.eqs[k] ≤ 2 ^ 30 := by
   have := wt_eq (wb := wtF 2) (V := x.b.vars) hqm
   have h3 : wtF 3 x.b.vars x.b.eqs = wtB (wtF 2) x.b.vars x.b.eqs := rfl
   omega
  have hq1 := defines_any 2 _ hqd hqw
  have hq2 := rdefines_any 2 _ hqd hqw
  have hq3 := sameEq_any 2 x.b.eqs[k] x.b.eqs[k] hqd
  have hq4 : smQ (smF 2) x.b.eqs[k] x.b.eqs[k] = true := smQ_rfl _ (fun a ha => smF_rfl 2 _ _ (hqd a ha))
  rw [hq4] at hq3
  generalize x.b.eqs[k] = q at *
  have hq1' := hq1.2
  have hq2' : ∀ m : M, ACalls Try.prog 46 [q.pv] m (fun v m' => v = .sl .no ((dfQ (dfF 2) q).map pS) ∧ m' = m) := hq2
  rw [Qu.pv_eq] at hq1' hq2' hq3
  (repeat (first | refine aSeq fun X hX => ?_ | refine aSkip ?_ | (first | apply aReg | apply aIf); simp -implicitDefEqProofs only [↓slp, ↓reduceIte, reduceCtorEq, jA, jB, jE, Yo, f13, f16, pI, c5] | apply hX; clear hX X | intro hlen; unfold maxLen at hlen))
  (repeat (first | refine aDrE ?_; simp -implicitDefEqProofs only [↓slp, ↓reduceIte, reduceCtorEq, jA, jB, jE, Yo, f13, f16, pI, hgk] | apply And.intro; focus omega))
  refine callE (hq1' _) ?_
  simp -implicitDefEqProofs only [↓slp, ↓reduceIte, reduceCtorEq, jA, jB, jE, Yo, f13, f16, pI, hgk]
  (repeat (apply And.intro; focus omega))
  refine callE (hq2' _) ?_
  simp -implicitDefEqProofs only [↓slp, slb, ↓reduceIte, jA]
  (repeat (first | refine aSeq fun X hX => ?_ | apply aBlk | refine aSkip ?_ | (first | refine aExit ?_ | refine aRet ?_); try simp only [slx, ↓reduceIte, jA, reduceCtorEq] | (first | apply aReg | refine aDrE ?_); simp -implicitDefEqProofs only [forall_eq, ↓slp, ↓reduceIte, reduceCtorEq, jA, jB, jC, jD, jE, jF, jG, jH, jI, jJ, jK, Yo, f9, f11, f12, f13, f16, pI, c5, hgk]; try simp only [fo] | apply hX; clear hX X | clear hX X; apply hX; clear hX X | clear hX X; clear hX X; apply hX; clear hX X | intro hlen; unfold maxLen at hlen | apply And.intro; · first | assumption | and_intros <;> first | omega | assumption))
  refine callE (sameNames_any _ _ _ _ _) ?_
  rw [sameSs_rfl]
  simp -implicitDefEqProofs only [↓slp, ↓reduceIte, reduceCtorEq, jA, jB, jE, Yo, f13, f16, pI, hgk]
  (repeat (apply And.intro; focus omega))
  refine callE (hq3 _) ?_
  simp -implicitDefEqProofs only [↓slp, slb, ↓reduceIte, jA, f16, pI]
  (repeat (apply hX; clear hX X))
  (repeat (first | refine aSkip ?_ | (first | apply aReg | apply aIf); simp -implicitDefEqProofs only [↓slp, slb, ↓reduceIte, jA, f16, pI, hki, pB] | apply hX; clear hX X))
  rw [hJ]
  exact ⟨⟨k + 1, hkl, f9, f11, f12, f13, rfl, rfl⟩, by omega⟩
 | false =>
  have hk' : k = x.b.eqs.length := by simp at c5; omega
  subst hk'
  have hs1 := sameBlock_any 3 y.b.vars y.b.eqs hd0 x.b.vars x.b.eqs
  have hs2 := rBlock_any 3 y.b.vars y.b.eqs hd0 x.b.vars x.b.eqs
  have hs3 := sameNode_any (d := 3) y y hd0
  rw [smN_rfl y hd0] at hs3
  generalize smF 3 y.b.vars y.b.eqs x.b.vars x.b.eqs = b3 at *
  (repeat (first | refine aSeq fun X hX => ?_ | refine aExit ?_; try simp only [slx, ↓reduceIte, jA, reduceCtorEq] | (first | apply aReg | apply aIf); simp -implicitDefEqProofs only [↓slp, ↓reduceIte, reduceCtorEq, jA, jB, jE, Yo, f13, f16, pI, c5] | apply hX; clear hX X | clear hX X; apply hX; clear hX X | intro hlen; unfold maxLen at hlen))
  (repeat (first | refine aDrE ?_; simp -implicitDefEqProofs only [↓slp, ↓reduceIte, reduceCtorEq, jA, jB, jE, Yo, f9, f12, f13, pI, c4, hg2] | apply And.intro; focus omega))
  refine callE (hs1 _) ?_
  simp -implicitDefEqProofs only [↓slp, ↓reduceIte, reduceCtorEq, jA, jB, jE, Yo, f9, f12, f13, pI, hg2]
  (repeat (apply And.intro; focus omega))
  refine callE (hs2 _) ?_
  simp -implicitDefEqProofs only [↓slp, ↓reduceIte, reduceCtorEq, jA, jB, jE, Yo, f9, f12, pI, hg2]
  (repeat (apply And.intro; focus omega))
  refine callE (hs3 _) ?_
  simp -implicitDefEqProofs only [↓slp, ↓reduceIte, jA, Yo]
  (repeat (apply hX; clear hX X))
  (repeat (first | refine aSkip ?_ | (first | apply aReg | apply aIf); simp -implicitDefEqProofs only [↓slp, slb, ↓reduceIte, jA, f12, pI, hii, pB] | apply hX; clear hX X))
  rw [hI]
  exact ⟨⟨i + 1, hlt, f9, f11, rfl, rfl⟩, by omega⟩
end Go.Proofs.Ytibhhoknipdlpaa
