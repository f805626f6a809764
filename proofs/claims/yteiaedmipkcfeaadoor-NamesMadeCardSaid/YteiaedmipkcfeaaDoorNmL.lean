/-
 The law NamesMade.
-/
-- halved
import Derived.Test.YteiaedmipkcfeaaDoorNmQ
import Derived.Test.YteiaedmipkcfeaaDoorNmAw
import Derived.Test.YteiaedmipkcfeaaDoorAbTail
set_option linter.unusedVariables false
set_option linter.unusedSimpArgs false
namespace Go.Proofs.YteiaedmipkcfeaaDoor
open Nat renaming reduceEqDiff → jA, reduceAdd → jB, reduceMul → jC, reduceLT → jD, reduceLeDiff → jE, reduceBEq → jF, reduceBNe → jG
open Int renaming reduceLE → jH, reduceLT → jI, reduceToNat → jJ, reduceEq → jK
open Go
set_option maxRecDepth 20000


theorem made_ns {ns : List No} (h : GNodes ns) (hl : ns.length ≤ 3) : NsN ns := ⟨hl, fun k hk => by
 obtain ⟨l, e, b, n', _, hn', hb, he⟩ := h k hk
 rw [he]⟩
theorem made_nd {ns : List No} (h : GNodes ns) : ∀ n ∈ ns, NdN ns n := fun n hn => by
 obtain ⟨k, hk, rfl⟩ := List.getElem_of_mem hn
 obtain ⟨l, e, b, n', hle, hn', hb, he⟩ := h k hk
 rw [he]
 have hd : ((nIns ++ nOuts l e).map Va.name).Nodup := by
  show ([sNa, sBb, sX, sY] : List Str).Nodup
  decide +kernel
 have hd2 : ((nOuts l e).map Va.name).Nodup := by
  show ([sX, sY] : List Str).Nodup
  decide +kernel
 refine ⟨hd, fun v hv => ?_, by simp [nIns, nOuts], ?_⟩
 ·simp only [nIns, nOuts, mkVa, List.cons_append, List.nil_append, List.mem_cons, List.not_mem_nil, or_false] at hv
  rcases hv with rfl | rfl | rfl | rfl
  ·exact ⟨(fun h => by cases h), (fun h => by cases h)⟩
  ·exact ⟨(fun h => by cases h), (fun h => by cases h)⟩
  ·refine ⟨(fun h => by cases h), fun h => ?_⟩
   rcases hle with ⟨h1, _⟩ | ⟨_, h2⟩
   ·rw [h1] at h; cases h
   ·exact fun F => nm_const h2
  ·exact ⟨(fun _ => rfl), (fun h => by cases h)⟩
 ·refine bk_nm ns _ (by omega) 3 _ _ _ _ b hb (by omega) (by simp [nOuts]) (by omega) (nIns ++ nOuts l e) (by simp [nIns, nOuts]) hd ⟨fun v hv => List.mem_append_left _ hv, (fun v hv => by cases hv), (fun v hv => by cases hv)⟩ (fun v hv => List.mem_append_right _ hv) hd2 (fun x hx j hj _ _ => ?_)
  exfalso
  simp only [nIns, nOuts, mkVa, List.cons_append, List.nil_append, List.mem_cons, List.not_mem_nil, or_false] at hx
  rcases hx with rfl | rfl | rfl | rfl <;> exact not_nm hj
theorem made_ok {ns : List No} (h : GNodes ns) (hl : ns.length ≤ 3) : NsOk ns := ⟨made_ns h hl, made_nd h, fun k hk => by
 obtain ⟨l, e, b, n', hle, hn', hb, he⟩ := h k hk
 rw [he]
 exact bk_ca 3 _ _ _ _ b hb⟩
set_option maxHeartbeats 4000000 in
theorem madeLaw_any (l : List Int) (hel : ∀ x ∈ l, 0 ≤ x ∧ x ≤ 255) :
    ACalls Tryd.prog 3 [.sl .no (l.map pU)] M0 (fun v m' => v = .v (.bool true)) := by
 refine ACalls.enter (mu := []) ok_mix Tryd.func3 rfl (by kernel_rfl) (by kernel_rfl) (by simp only [List.length_cons, List.length_nil, Tryd.ntmps3]; omega) ?_
 cases c1 : decide ((l.length : Int) > 400) with
 | true =>
  (repeat (first | refine aSeq fun X hX => ?_ | apply aBlk | refine aSkip ?_ | (first | refine aExit ?_ | refine aRet ?_); try simp only [slx, ↓reduceIte, jA, reduceCtorEq] | (first | apply aReg | refine aDrE ?_); simp -implicitDefEqProofs only [forall_eq, ↓slp, ↓reduceIte, reduceCtorEq, jA, jB, jC, jD, jE, jF, jG, jH, jI, jJ, jK, Y0, c1]; try simp only [fo] | apply hX; clear hX X | clear hX X; apply hX; clear hX X | clear hX X; clear hX X; apply hX; clear hX X | intro hlen; unfold maxLen at hlen | apply And.intro; · first | assumption | and_intros <;> first | omega | assumption))
  refine callE (awake_run _) ?_
  simp -implicitDefEqProofs only [↓slp, ↓reduceIte, reduceCtorEq, jA, jB, jC, jD, jE, jF, jG, jH, jI, jJ, jK, Y0, c1]; try simp only [fo]
  (repeat (first | refine aSeq fun X hX => ?_ | apply aBlk | refine aSkip ?_ | (first | refine aExit ?_ | refine aRet ?_); try simp only [slx, ↓reduceIte, jA, reduceCtorEq] | (first | apply aReg | refine aDrE ?_); simp -implicitDefEqProofs only [forall_eq, ↓slp, ↓reduceIte, reduceCtorEq, jA, jB, jC, jD, jE, jF, jG, jH, jI, jJ, jK, Y0, c1]; try simp only [fo] | apply hX; clear hX X | clear hX X; apply hX; clear hX X | clear hX X; clear hX X; apply hX; clear hX X | intro hlen; unfold maxLen at hlen | apply And.intro; · first | assumption | and_intros <;> first | omega | assumption))
  refine aIf ?_; simp -implicitDefEqProofs only [↓slp, slb, ↓reduceIte, reduceCtorEq, jA, jB, jC, jD, jE, jF, jG, jH, jI, jJ, jK]
  (repeat (first | refine aSeq fun X hX => ?_ | apply aBlk | refine aSkip ?_ | (first | refine aExit ?_ | refine aRet ?_); try simp only [slx, ↓reduceIte, jA, reduceCtorEq] | (first | apply aReg | refine aDrE ?_); simp -implicitDefEqProofs only [forall_eq, ↓slp, ↓reduceIte, reduceCtorEq, jA, jB, jC, jD, jE, jF, jG, jH, jI, jJ, jK, Y0]; try simp only [fo] | apply hX; clear hX X | clear hX X; apply hX; clear hX X | clear hX X; clear hX X; apply hX; clear hX X | intro hlen; unfold maxLen at hlen | apply And.intro; · first | assumption | and_intros <;> first | omega | assumption))
  refine callE (awake_run _) ?_
  simp -implicitDefEqProofs only [↓slp, ↓reduceIte, reduceCtorEq, jA, jB, jC, jD, jE, jF, jG, jH, jI, jJ, jK, Y0]; try simp only [fo]
  (repeat (first | refine aSeq fun X hX => ?_ | apply aBlk | refine aSkip ?_ | (first | refine aExit ?_ | refine aRet ?_); try simp only [slx, ↓reduceIte, jA, reduceCtorEq] | (first | apply aReg | refine aDrE ?_); simp -implicitDefEqProofs only [forall_eq, ↓slp, ↓reduceIte, reduceCtorEq, jA, jB, jC, jD, jE, jF, jG, jH, jI, jJ, jK, Y0]; try simp only [fo] | apply hX; clear hX X | clear hX X; apply hX; clear hX X | clear hX X; clear hX X; apply hX; clear hX X | intro hlen; unfold maxLen at hlen | apply And.intro; · first | assumption | and_intros <;> first | omega | assumption))
  simp only [aPost, Tryd.results3, aRes_n, aRes_t, aRes_c, pack_one, pack_two]
  exact leave_same rfl rfl
 | false =>
  (repeat (first | refine aSeq fun X hX => ?_ | apply aBlk | refine aSkip ?_ | (first | refine aExit ?_ | refine aRet ?_); try simp only [slx, ↓reduceIte, jA, reduceCtorEq] | (first | apply aReg | refine aDrE ?_); simp -implicitDefEqProofs only [forall_eq, ↓slp, ↓reduceIte, reduceCtorEq, jA, jB, jC, jD, jE, jF, jG, jH, jI, jJ, jK, Y0, c1]; try simp only [fo] | apply hX; clear hX X | clear hX X; apply hX; clear hX X | clear hX X; clear hX X; apply hX; clear hX X | intro hlen; unfold maxLen at hlen | apply And.intro; · first | assumption | and_intros <;> first | omega | assumption))
  refine callE (awake_run _) ?_
  simp -implicitDefEqProofs only [↓slp, ↓reduceIte, reduceCtorEq, jA, jB, jC, jD, jE, jF, jG, jH, jI, jJ, jK, Y0, c1]; try simp only [fo]
  (repeat (first | refine aSeq fun X hX => ?_ | apply aBlk | refine aSkip ?_ | (first | refine aExit ?_ | refine aRet ?_); try simp only [slx, ↓reduceIte, jA, reduceCtorEq] | (first | apply aReg | apply aIf); simp -implicitDefEqProofs only [forall_eq, ↓slp, ↓reduceIte, reduceCtorEq, jA, jB, jC, jD, jE, jF, jG, jH, jI, jJ, jK, Y0, c1]; try simp only [fo] | apply hX; clear hX X | clear hX X; apply hX; clear hX X | clear hX X; clear hX X; apply hX; clear hX X | intro hlen; unfold maxLen at hlen | apply And.intro; · first | assumption | and_intros <;> first | omega | assumption))
  refine callM (make_any l (by simp at c1; omega) hel _) ?_
  rintro v m' ⟨ns, rfl, hln, hns, rfl⟩
  simp -implicitDefEqProofs only [↓slp, ↓reduceIte, reduceCtorEq, jA, jB, jC, jD, jE, jF, jG, jH, jI, jJ, jK, Y0]; try simp only [fo]
  refine callE (checkN_any ns (made_ok hns hln.2) _) ?_
  simp -implicitDefEqProofs only [↓slp, ↓reduceIte, reduceCtorEq, jA, jB, jC, jD, jE, jF, jG, jH, jI, jJ, jK, Y0]; try simp only [fo]
  (repeat (first | refine aSeq fun X hX => ?_ | apply aBlk | refine aSkip ?_ | (first | refine aExit ?_ | refine aRet ?_); try simp only [slx, ↓reduceIte, jA, reduceCtorEq] | (first | apply aReg | apply aIf); simp -implicitDefEqProofs only [forall_eq, ↓slp, ↓reduceIte, reduceCtorEq, jA, jB, jC, jD, jE, jF, jG, jH, jI, jJ, jK, Y0]; try simp only [fo] | apply hX; clear hX X | clear hX X; apply hX; clear hX X | clear hX X; clear hX X; apply hX; clear hX X | intro hlen; unfold maxLen at hlen | apply And.intro; · first | assumption | and_intros <;> first | omega | assumption))
  simp only [aPost, Tryd.results3, aRes_n, aRes_t, aRes_c, pack_one, pack_two]
  exact leave_same rfl rfl
end Go.Proofs.YteiaedmipkcfeaaDoor
