/-
  Texts that belong together: TmK, TmL.
-/
import Derived.Test.YticdboelpgalpaaDoorTmS
import Derived.Test.YticdboelpgalpaaDoorLvA
import Derived.Test.YticdboelpgalpaaDoorRnA
import Derived.Test.YticdboelpgalpaaDoorTmZ
import Derived.Test.YticdboelpgalpaaDoorTmAw
import Derived.Test.YticdboelpgalpaaDoorAbTail
/-
  types.Check of a program that is right.
-/
set_option linter.unusedVariables false
set_option linter.unusedSimpArgs false
namespace Go.Proofs.YticdboelpgalpaaDoor
open Nat renaming reduceEqDiff → jA, reduceAdd → jB, reduceMul → jC, reduceLT → jD, reduceLeDiff → jE, reduceBEq → jF, reduceBNe → jG
open Int renaming reduceLE → jH, reduceLT → jI, reduceToNat → jJ, reduceEq → jK
open Go
set_option maxRecDepth 20000
set_option linter.defProp false
def tfTmK := tfTmW

theorem DRet.mono {P : Program} {h : FuncId} {args : List PV} {m : M} {Q Q' : M → Prop} (hd : DRet P h args m Q) (hq : ∀ m', Q m' → Q' m') : DRet P h args m Q' := fun G w vs a b c => (hd G w vs a b c).mono (by rintro e u w' ⟨h1, h2, m', G', h3, h4, h5⟩; exact ⟨h1, h2, m', G', hq _ h3, h4, h5⟩)
set_option maxHeartbeats 2000000 in
theorem caught_ret (x : PV) (m : M) : DRet Tryd.prog 10 [x] m (fun m' => m' = m) := by
  refine DRet.of (mu := []) ok_mix Tryd.func10 rfl rfl ⟨rfl, rfl, rfl⟩ (by kernel_rfl) (by decide) (by simp only [List.length_cons, List.length_nil, Tryd.ntmps10]; omega) ?_
  (repeat (first | refine aSeq fun X hX => ?_ | refine aBlk ?_ | refine aSkip ?_ | (first | refine aExit ?_ | refine aRet ?_); try simp only [slx, ↓reduceIte, jA, reduceCtorEq] | (first | refine aReg ?_ | refine aDrE ?_); simp -implicitDefEqProofs only [forall_eq, ↓slp, slb, ↓reduceIte, reduceCtorEq, jA, jB, jC, jD, jE, jF, jG, jH, jI, jJ, jK, tfTmK]; try simp only [fo] | refine hX _ _ ?_; clear hX X | clear hX X; refine hX _ _ ?_; clear hX X | clear hX X; clear hX X; refine hX _ _ ?_; clear hX X | intro hlen; unfold maxLen at hlen | apply And.intro; focus (first | omega | assumption | (repeat' apply And.intro) <;> first | omega | assumption)))
  refine aIf ?_; simp -implicitDefEqProofs only [↓slp, slb, ↓reduceIte, reduceCtorEq, jA, jB, jC, jD, jE, jF, jG, jH, jI, jJ, jK]
  (repeat (first | refine aSeq fun X hX => ?_ | refine aBlk ?_ | refine aSkip ?_ | (first | refine aExit ?_ | refine aRet ?_); try simp only [slx, ↓reduceIte, jA, reduceCtorEq] | (first | refine aReg ?_ | refine aDrE ?_); simp -implicitDefEqProofs only [forall_eq, ↓slp, slb, ↓reduceIte, reduceCtorEq, jA, jB, jC, jD, jE, jF, jG, jH, jI, jJ, jK, tfTmK]; try simp only [fo] | refine hX _ _ ?_; clear hX X | clear hX X; refine hX _ _ ?_; clear hX X | clear hX X; clear hX X; refine hX _ _ ?_; clear hX X | intro hlen; unfold maxLen at hlen | apply And.intro; focus (first | omega | assumption | (repeat' apply And.intro) <;> first | omega | assumption)))
/-- A node that is right. -/
def NdT (ns : List No) (n : No) : Prop := (∀ v ∈ n.ins ++ n.outs, VaT (n.ins ++ n.outs) v) ∧ (n.ins ++ n.outs).length ≤ 1000 ∧ TyB ns 3 (n.ins ++ n.outs) n.b.vars n.b.eqs
set_option maxHeartbeats 8000000 in
theorem checkT_any (ns : List No) (hT : NsT ns) (hns : ∀ n ∈ ns, NdT ns n) (m : M) :
    ACalls Tryd.prog 8 [.ag [.sl .no [.ag colC], .sl .no (ns.map No.pv)]] m (fun v m' => v = .v .nilIface ∧ m' = m) := by
  refine ACalls.leave (R := fun v m' => v = .v .nilIface ∧ m' = m.ext [some [.v .nilIface]]) ?_ (fun v m' ⟨h1, h2⟩ => by subst h1 h2; exact leave_ext rfl ⟨rfl, rfl⟩)
  have hvv := fun (n : No) (hn : n ∈ ns) (k : Nat) (h : k < (n.ins ++ n.outs).length) => varT_any ns ((hns n hn).1 (n.ins ++ n.outs)[k] (List.getElem_mem h))
  have hbb := fun (n : No) (hn : n ∈ ns) m1 => blockT_all ns hT 3 _ _ _ (hns n hn).2.2 m1 _ (.inl rfl)
  have hcc := fun (n : No) (hn : n ∈ ns) o m1 => concatV_any o [n.ins, n.outs] m1 (by have := (hns n hn).2.1; rw [show [n.ins, n.outs].flatten = n.ins ++ n.outs by simp]; omega)
  have hLf := fun (n : No) => (show [n.ins, n.outs].flatten = n.ins ++ n.outs by simp)
  simp only [hLf, pLV, List.map_cons, List.map_nil] at hcc
  unfold lkP colC at *
  obtain ⟨Xf, hXf⟩ : ∃ Xf : F → M → Prop, ∀ f1 m1, Xf f1 m1 = ((f1 1 = .ep [.sl .no [.ag [.v (.string sCol), .sl .no [pS sRed, pS sGreen, pS sBlue], .v (.int .i64 0), .v (.int .i64 0)]], .sl .no (ns.map No.pv)] ∧ f1 2 = .bp m.nb 0) ∧ m1 = m.ext [some [.v .nilIface]]) := ⟨_, fun _ _ => rfl⟩
  refine ACalls.enterDM (mu := [2]) (l := [_]) (kps := [2]) ok_mix Tryd.func8 rfl (by kernel_rfl) (by kernel_rfl) ⟨rfl, rfl, rfl, rfl, rfl⟩ ?_ (fun kv => by rw [bd_kv _ _ kv (fun _ => undef)]; kernel_rfl) (by simp only [List.length_cons, List.length_nil, Tryd.ntmps8]; omega) Xf ?_ ?_
  · intro A hA
    simp only [List.mem_cons, List.not_mem_nil, or_false] at hA
    rcases hA with rfl
    kernel_rfl
  · unfold aPre
    (repeat (first | refine aSeq fun X hX => ?_ | refine aBlk ?_ | refine aSkip ?_ | (first | refine aExit ?_ | refine aRet ?_); try simp only [slx, ↓reduceIte, jA, reduceCtorEq] | (first | refine aReg ?_ | refine aDrE ?_); simp -implicitDefEqProofs only [forall_eq, ↓slp, slb, ↓reduceIte, reduceCtorEq, jA, jB, jC, jD, jE, jF, jG, jH, jI, jJ, jK, tfTmK]; try simp only [fo] | refine hX _ _ ?_; clear hX X | clear hX X; refine hX _ _ ?_; clear hX X | clear hX X; clear hX X; refine hX _ _ ?_; clear hX X | intro hlen; unfold maxLen at hlen | apply And.intro; focus (first | omega | assumption | (repeat' apply And.intro) <;> first | omega | assumption)))
    show Xf _ _
    rw [hXf]
    exact ⟨⟨rfl, rfl⟩, rfl⟩
  · intro f1 m1 hx
    rw [hXf] at hx
    obtain ⟨⟨f1', f2⟩, rfl⟩ := hx
    have hargs : (#[Operand.tmp 2] : Array Operand).toList.map (ev f1) = [.bp m.nb 0] := by
      simp only [List.map_cons, List.map_nil, ev_tmp, f2]
    have k2 : (F.only [2] f1) 2 = .bp m.nb 0 := by unfold F.only; rw [if_pos (by simp)]; exact f2
    have hnf : ofV Value.nilFunc = .v .nilFunc := rfl
    refine ⟨fun m2 => m2 = m.ext [some [.v .nilIface]], fun _ _ => False, ?_, ?_, fun v m2 h => h.elim⟩
    · obtain ⟨ms, hms⟩ : ∃ ms, m.ext [some [.v .nilIface]] = ms := ⟨_, rfl⟩
      have hup : ∀ c, (m.ext [some [.v .nilIface]]).upd m.nb c = m.ext [some c] := fun c => by simp [ext_upd0]
      rw [hms]
      (repeat (first | refine aSeq fun X hX => ?_ | refine aBlk ?_ | refine aSkip ?_ | (first | refine aExit ?_ | refine aRet ?_); try simp only [slx, ↓reduceIte, jA, reduceCtorEq] | (first | refine aReg ?_ | refine aIf ?_); simp -implicitDefEqProofs only [forall_eq, ↓slp, slb, ↓reduceIte, reduceCtorEq, jA, jB, jC, jD, jE, jF, jG, jH, jI, jJ, jK, tfTmK, f1', f2]; try simp only [fo] | refine hX _ _ ?_; clear hX X | clear hX X; refine hX _ _ ?_; clear hX X | clear hX X; clear hX X; refine hX _ _ ?_; clear hX X | intro hlen; unfold maxLen at hlen | apply And.intro; focus (first | omega | assumption | (repeat' apply And.intro) <;> first | omega | assumption)))
      obtain ⟨I, hI⟩ : ∃ I : F → M → Prop, ∀ f m', I f m' = (∃ (k : Nat), k ≤ ns.length ∧ f 2 = .bp m.nb 0 ∧ f 3 = .ep [.sl .no [.ag [.v (.string sCol), .sl .no [pS sRed, pS sGreen, pS sBlue], .v (.int .i64 0), .v (.int .i64 0)]], .sl .no (ns.map No.pv)] ∧ f 13 = .sl .no (ns.map No.pv) ∧ f 14 = pI ns.length ∧ f 15 = pI k ∧ ms = m') := ⟨_, fun _ _ => rfl⟩
      refine aLoop I (fun f m => ns.length - numOf (f 15)) ?_ ?_
      · rw [hI]; exact ⟨0, by omega, f2, rfl, rfl, rfl, rfl, rfl⟩
      clear f1' f2
      intro f m' hrel
      rw [hI] at hrel
      obtain ⟨k, hk, f2, f3, f13, f14, f15, rfl⟩ := hrel
      cases c1 : decide ((k : Int) < (ns.length : Int)) with
      | false =>
        rw [← hms]
        (repeat (first | refine aSeq fun X hX => ?_ | refine aBlk ?_ | refine aSkip ?_ | (first | refine aExit ?_ | refine aRet ?_); try simp only [slx, ↓reduceIte, jA, reduceCtorEq] | (first | refine aReg ?_ | refine aIf ?_); simp -implicitDefEqProofs only [forall_eq, ↓slp, slb, ↓reduceIte, reduceCtorEq, jA, jB, jC, jD, jE, jF, jG, jH, jI, jJ, jK, tfTmK, f2, f13, f14, f15, pI, c1]; try simp only [fo] | refine hX _ _ ?_; clear hX X | clear hX X; refine hX _ _ ?_; clear hX X | clear hX X; clear hX X; refine hX _ _ ?_; clear hX X | intro hlen; unfold maxLen at hlen | apply And.intro; focus (first | omega | assumption | (repeat' apply And.intro) <;> first | omega | assumption)))
        exact ⟨.inr trivial, hms⟩
      | true =>
        have hlt : k < ns.length := by simpa using c1
        have g0 := getD_map No.pv ns k hlt
        have hi : IntKind.i64.wrap ((k : Int) + 1) = ((k + 1 : Nat) : Int) := by rw [wrap64 (by omega)]; omega
        have hme : numOf (f 15) = k := by rw [f15]; exact Int.toNat_natCast k
        have hv1 := hvv ns[k] (List.getElem_mem hlt)
        have hb1 := hbb ns[k] (List.getElem_mem hlt)
        have hc1 := hcc ns[k] (List.getElem_mem hlt)
        generalize ns[k] = n at *
        obtain ⟨L, hL⟩ : ∃ L, n.ins ++ n.outs = L := ⟨_, rfl⟩
        rw [hL] at hc1 hb1
        have hv2 : ∀ (k : Nat) (h : k < L.length) (m : M), ACalls Tryd.prog 16 [.ep [.sl .no [.ag [.v (.string sCol), .sl .no [pS sRed, pS sGreen, pS sBlue], .v (.int .i64 0), .v (.int .i64 0)]], .sl .no (ns.map No.pv)], .sl .no (L.map Va.pv), L[k].pv] m (unit m) := by rw [← hL]; exact hv1
        (repeat (first | refine aSeq fun X hX => ?_ | refine aBlk ?_ | refine aSkip ?_ | (first | refine aExit ?_ | refine aRet ?_); try simp only [slx, ↓reduceIte, jA, reduceCtorEq] | (first | refine aReg ?_ | refine aIf ?_); simp -implicitDefEqProofs only [forall_eq, ↓slp, slb, ↓reduceIte, reduceCtorEq, jA, jB, jC, jD, jE, jF, jG, jH, jI, jJ, jK, tfTmK, f2, f3, f13, f14, f15, pI, c1, g0]; try simp only [fo] | refine hX _ _ ?_; clear hX X | clear hX X; refine hX _ _ ?_; clear hX X | clear hX X; clear hX X; refine hX _ _ ?_; clear hX X | intro hlen; unfold maxLen at hlen | apply And.intro; focus (first | omega | assumption | (repeat' apply And.intro) <;> first | omega | assumption)))
        refine callE (hc1 _ _) ?_
        simp -implicitDefEqProofs only [↓slp, slb, ↓reduceIte, reduceCtorEq, jA, jB, jC, jD, jE, jF, jG, jH, jI, jJ, jK, tfTmK]; try simp only [fo]
        (repeat (first | refine aSeq fun X hX => ?_ | refine aBlk ?_ | refine aSkip ?_ | (first | refine aExit ?_ | refine aRet ?_); try simp only [slx, ↓reduceIte, jA, reduceCtorEq] | (first | refine aReg ?_ | refine aIf ?_); simp -implicitDefEqProofs only [forall_eq, ↓slp, slb, ↓reduceIte, reduceCtorEq, jA, jB, jC, jD, jE, jF, jG, jH, jI, jJ, jK, tfTmK, f2, f3, f13, f14, f15, pI]; try simp only [fo] | refine hX _ _ ?_; clear hX X | clear hX X; refine hX _ _ ?_; clear hX X | clear hX X; clear hX X; refine hX _ _ ?_; clear hX X | intro hlen; unfold maxLen at hlen | apply And.intro; focus (first | omega | assumption | (repeat' apply And.intro) <;> first | omega | assumption)))
        obtain ⟨J, hJ⟩ : ∃ J : F → M → Prop, ∀ f m', J f m' = (∃ (j : Nat), j ≤ L.length ∧ f 2 = .bp m.nb 0 ∧ f 3 = .ep [.sl .no [.ag [.v (.string sCol), .sl .no [pS sRed, pS sGreen, pS sBlue], .v (.int .i64 0), .v (.int .i64 0)]], .sl .no (ns.map No.pv)] ∧ f 5 = .ep n.cs ∧ f 6 = .sl .no (L.map Va.pv) ∧ f 13 = .sl .no (ns.map No.pv) ∧ f 14 = pI ns.length ∧ f 15 = pI k ∧ f 25 = .sl .no (L.map Va.pv) ∧ f 26 = pI L.length ∧ f 27 = pI j ∧ ms = m') := ⟨_, fun _ _ => rfl⟩
        refine aLoop J (fun f m => L.length - numOf (f 27)) ?_ ?_
        · rw [hJ]; exact ⟨0, by omega, f2, f3, rfl, rfl, f13, f14, f15, rfl, rfl, rfl, rfl⟩
        clear f2 f3 f13 f14 f15
        intro f m' hrel
        rw [hJ] at hrel
        obtain ⟨j, hj, f2, f3, f5, f6, f13, f14, f15, f25, f26, f27, rfl⟩ := hrel
        cases c2 : decide ((j : Int) < (L.length : Int)) with
        | true =>
          have hltj : j < L.length := by simpa using c2
          have gj := getD_map Va.pv L j hltj
          have hij : IntKind.i64.wrap ((j : Int) + 1) = ((j + 1 : Nat) : Int) := by rw [wrap64 (by omega)]; omega
          have hmej : numOf (f 27) = j := by rw [f27]; exact Int.toNat_natCast j
          (repeat (first | refine aSeq fun X hX => ?_ | refine aBlk ?_ | refine aSkip ?_ | (first | refine aExit ?_ | refine aRet ?_); try simp only [slx, ↓reduceIte, jA, reduceCtorEq] | (first | refine aReg ?_ | refine aIf ?_); simp -implicitDefEqProofs only [forall_eq, ↓slp, slb, ↓reduceIte, reduceCtorEq, jA, jB, jC, jD, jE, jF, jG, jH, jI, jJ, jK, tfTmK, f2, f3, f5, f6, f25, f26, f27, pI, c2, gj]; try simp only [fo] | refine hX _ _ ?_; clear hX X | clear hX X; refine hX _ _ ?_; clear hX X | clear hX X; clear hX X; refine hX _ _ ?_; clear hX X | intro hlen; unfold maxLen at hlen | apply And.intro; focus (first | omega | assumption | (repeat' apply And.intro) <;> first | omega | assumption)))
          refine callMS (hv2 j hltj _) (by simp only [List.map_cons, List.map_nil, PV.settle, PV.settles, Va.settle_pv]; rfl) ?_
          rintro v mc ⟨rfl, hmc⟩
          subst hmc
          simp -implicitDefEqProofs only [↓slp, slb, ↓reduceIte, reduceCtorEq, jA, jB, jC, jD, jE, jF, jG, jH, jI, jJ, jK, tfTmK]; try simp only [fo]
          (repeat (first | refine aSeq fun X hX => ?_ | refine aBlk ?_ | refine aSkip ?_ | (first | refine aExit ?_ | refine aRet ?_); try simp only [slx, ↓reduceIte, jA, reduceCtorEq] | (first | refine aReg ?_ | refine aIf ?_); simp -implicitDefEqProofs only [forall_eq, ↓slp, slb, ↓reduceIte, reduceCtorEq, jA, jB, jC, jD, jE, jF, jG, jH, jI, jJ, jK, tfTmK, f27, pI, hij]; try simp only [fo] | refine hX _ _ ?_; clear hX X | clear hX X; refine hX _ _ ?_; clear hX X | clear hX X; clear hX X; refine hX _ _ ?_; clear hX X | intro hlen; unfold maxLen at hlen | apply And.intro; focus (first | omega | assumption | (repeat' apply And.intro) <;> first | omega | assumption)))
          rw [hJ]
          exact ⟨⟨j + 1, hltj, f2, f3, f5, f6, f13, f14, f15, f25, f26, rfl, rfl⟩, by omega⟩
        | false =>
          (repeat (first | refine aSeq fun X hX => ?_ | refine aBlk ?_ | refine aSkip ?_ | (first | refine aExit ?_ | refine aRet ?_); try simp only [slx, ↓reduceIte, jA, reduceCtorEq] | (first | refine aReg ?_ | refine aIf ?_); simp -implicitDefEqProofs only [forall_eq, ↓slp, slb, ↓reduceIte, reduceCtorEq, jA, jB, jC, jD, jE, jF, jG, jH, jI, jJ, jK, tfTmK, f2, f3, f5, f6, f25, f26, f27, pI, c2, hnf]; try simp only [fo] | refine hX _ _ ?_; clear hX X | clear hX X; refine hX _ _ ?_; clear hX X | clear hX X; clear hX X; refine hX _ _ ?_; clear hX X | intro hlen; unfold maxLen at hlen | apply And.intro; focus (first | omega | assumption | (repeat' apply And.intro) <;> first | omega | assumption)))
          refine callMS (hb1 _) (by simp only [List.map_cons, List.map_nil, PV.settle, PV.settles, hnf]) ?_
          rintro v mc ⟨rfl, hmc⟩
          subst hmc
          simp -implicitDefEqProofs only [↓slp, slb, ↓reduceIte, reduceCtorEq, jA, jB, jC, jD, jE, jF, jG, jH, jI, jJ, jK, tfTmK]; try simp only [fo]
          (repeat (first | refine aSeq fun X hX => ?_ | refine aBlk ?_ | refine aSkip ?_ | (first | refine aExit ?_ | refine aRet ?_); try simp only [slx, ↓reduceIte, jA, reduceCtorEq] | (first | refine aReg ?_ | refine aIf ?_); simp -implicitDefEqProofs only [forall_eq, ↓slp, slb, ↓reduceIte, reduceCtorEq, jA, jB, jC, jD, jE, jF, jG, jH, jI, jJ, jK, tfTmK, f15, pI, hi]; try simp only [fo] | refine hX _ _ ?_; clear hX X | clear hX X; refine hX _ _ ?_; clear hX X | clear hX X; clear hX X; refine hX _ _ ?_; clear hX X | intro hlen; unfold maxLen at hlen | apply And.intro; focus (first | omega | assumption | (repeat' apply And.intro) <;> first | omega | assumption)))
          rw [hI]
          exact ⟨⟨k + 1, hlt, f2, f3, f13, f14, rfl, rfl⟩, by omega⟩
    · rintro m2 rfl
      rw [hargs]
      refine (caught_ret _ _).mono ?_
      rintro m3 rfl
      simp only [Tryd.results8, aRes_n, aRes_t, aRes_c]
      simp -implicitDefEqProofs only [↓slp, slb, ↓reduceIte, reduceCtorEq, jA, jB, jC, jD, jE, jF, jG, jH, jI, jJ, jK, tfTmK, k2]; try simp only [fo]
      try exact ⟨rfl, rfl⟩
end Go.Proofs.YticdboelpgalpaaDoor

/-
  The law TypesMade.
-/
set_option linter.unusedVariables false
set_option linter.unusedSimpArgs false
namespace Go.Proofs.YticdboelpgalpaaDoor
open Nat renaming reduceEqDiff → jA, reduceAdd → jB, reduceMul → jC, reduceLT → jD, reduceLeDiff → jE, reduceBEq → jF, reduceBNe → jG
open Int renaming reduceLE → jH, reduceLT → jI, reduceToNat → jJ, reduceEq → jK
open Go
set_option maxRecDepth 20000
set_option linter.defProp false
def tfTmL := tfAbNl

theorem made_ns {ns : List No} (h : GNodes ns) (hl : ns.length ≤ 3) : NsT ns := ⟨hl, fun k hk => by
  obtain ⟨l, e, b, n', _, hn', hb, he⟩ := h k hk
  rw [he]
  exact ⟨rfl, rfl, rfl⟩⟩
theorem made_nd {ns : List No} (h : GNodes ns) : ∀ n ∈ ns, NdT ns n := fun n hn => by
  obtain ⟨k, hk, rfl⟩ := List.getElem_of_mem hn
  obtain ⟨l, e, b, n', hle, hn', hb, he⟩ := h k hk
  rw [he]
  have hd : ((nIns ++ nOuts l e).map Va.name).Nodup := by
    show ([sNa, sBb, sX, sY] : List Str).Nodup
    decide +kernel
  refine ⟨fun v hv => ?_, by simp [nIns, nOuts], ?_⟩
  · simp only [nIns, nOuts, mkVa, List.cons_append, List.nil_append, List.mem_cons, List.not_mem_nil, or_false] at hv
    rcases hv with rfl | rfl | rfl | rfl
    · exact ⟨(fun h => by cases h), (fun o ho => by cases ho)⟩
    · exact ⟨(fun h => by cases h), (fun o ho => by cases ho)⟩
    · refine ⟨fun h => ?_, fun o ho => by cases ho⟩
      rcases hle with ⟨h1, _⟩ | ⟨_, h2⟩
      · rw [h1] at h; cases h
      · exact ht_const h2
    · exact ⟨(fun h => by cases h), (fun o ho => by cases ho)⟩
  · refine bk_ty ns _ (by omega) 3 _ _ _ _ b hb (by omega) (nIns ++ nOuts l e) (by simp [nIns, nOuts]) hd ⟨fun v hv => List.mem_append_left _ hv, (fun v hv => by cases hv), (fun v hv => by cases hv)⟩ (fun v hv => List.mem_append_right _ hv) (fun x hx j hj _ _ => ?_)
    exfalso
    simp only [nIns, nOuts, mkVa, List.cons_append, List.nil_append, List.mem_cons, List.not_mem_nil, or_false] at hx
    rcases hx with rfl | rfl | rfl | rfl <;> exact not_nm hj
set_option maxHeartbeats 4000000 in
theorem madeLaw_any (l : List Int) (hel : ∀ x ∈ l, 0 ≤ x ∧ x ≤ 255) :
    ACalls Tryd.prog 4 [.sl .no (l.map pU)] M0 (fun v m' => v = .v (.bool true)) := by
  refine ACalls.enter (mu := []) ok_mix Tryd.func4 rfl (by kernel_rfl) (by kernel_rfl) (by simp only [List.length_cons, List.length_nil, Tryd.ntmps4]; omega) ?_
  cases c1 : decide ((l.length : Int) > 400) with
  | true =>
    (repeat (first | refine aSeq fun X hX => ?_ | refine aBlk ?_ | refine aSkip ?_ | (first | refine aExit ?_ | refine aRet ?_); try simp only [slx, ↓reduceIte, jA, reduceCtorEq] | (first | refine aReg ?_ | refine aDrE ?_); simp -implicitDefEqProofs only [forall_eq, ↓slp, slb, ↓reduceIte, reduceCtorEq, jA, jB, jC, jD, jE, jF, jG, jH, jI, jJ, jK, tfTmL, c1]; try simp only [fo] | refine hX _ _ ?_; clear hX X | clear hX X; refine hX _ _ ?_; clear hX X | clear hX X; clear hX X; refine hX _ _ ?_; clear hX X | intro hlen; unfold maxLen at hlen | apply And.intro; focus (first | omega | assumption | (repeat' apply And.intro) <;> first | omega | assumption)))
    refine callE (awake_run _) ?_
    simp -implicitDefEqProofs only [↓slp, slb, ↓reduceIte, reduceCtorEq, jA, jB, jC, jD, jE, jF, jG, jH, jI, jJ, jK, tfTmL, c1]; try simp only [fo]
    (repeat (first | refine aSeq fun X hX => ?_ | refine aBlk ?_ | refine aSkip ?_ | (first | refine aExit ?_ | refine aRet ?_); try simp only [slx, ↓reduceIte, jA, reduceCtorEq] | (first | refine aReg ?_ | refine aDrE ?_); simp -implicitDefEqProofs only [forall_eq, ↓slp, slb, ↓reduceIte, reduceCtorEq, jA, jB, jC, jD, jE, jF, jG, jH, jI, jJ, jK, tfTmL, c1]; try simp only [fo] | refine hX _ _ ?_; clear hX X | clear hX X; refine hX _ _ ?_; clear hX X | clear hX X; clear hX X; refine hX _ _ ?_; clear hX X | intro hlen; unfold maxLen at hlen | apply And.intro; focus (first | omega | assumption | (repeat' apply And.intro) <;> first | omega | assumption)))
    refine aIf ?_; simp -implicitDefEqProofs only [↓slp, slb, ↓reduceIte, reduceCtorEq, jA, jB, jC, jD, jE, jF, jG, jH, jI, jJ, jK]
    (repeat (first | refine aSeq fun X hX => ?_ | refine aBlk ?_ | refine aSkip ?_ | (first | refine aExit ?_ | refine aRet ?_); try simp only [slx, ↓reduceIte, jA, reduceCtorEq] | (first | refine aReg ?_ | refine aDrE ?_); simp -implicitDefEqProofs only [forall_eq, ↓slp, slb, ↓reduceIte, reduceCtorEq, jA, jB, jC, jD, jE, jF, jG, jH, jI, jJ, jK, tfTmL]; try simp only [fo] | refine hX _ _ ?_; clear hX X | clear hX X; refine hX _ _ ?_; clear hX X | clear hX X; clear hX X; refine hX _ _ ?_; clear hX X | intro hlen; unfold maxLen at hlen | apply And.intro; focus (first | omega | assumption | (repeat' apply And.intro) <;> first | omega | assumption)))
    refine callE (awake_run _) ?_
    simp -implicitDefEqProofs only [↓slp, slb, ↓reduceIte, reduceCtorEq, jA, jB, jC, jD, jE, jF, jG, jH, jI, jJ, jK, tfTmL]; try simp only [fo]
    (repeat (first | refine aSeq fun X hX => ?_ | refine aBlk ?_ | refine aSkip ?_ | (first | refine aExit ?_ | refine aRet ?_); try simp only [slx, ↓reduceIte, jA, reduceCtorEq] | (first | refine aReg ?_ | refine aDrE ?_); simp -implicitDefEqProofs only [forall_eq, ↓slp, slb, ↓reduceIte, reduceCtorEq, jA, jB, jC, jD, jE, jF, jG, jH, jI, jJ, jK, tfTmL]; try simp only [fo] | refine hX _ _ ?_; clear hX X | clear hX X; refine hX _ _ ?_; clear hX X | clear hX X; clear hX X; refine hX _ _ ?_; clear hX X | intro hlen; unfold maxLen at hlen | apply And.intro; focus (first | omega | assumption | (repeat' apply And.intro) <;> first | omega | assumption)))
    simp only [aPost, Tryd.results4, aRes_n, aRes_t, aRes_c, pack_one, pack_two]
    exact leave_same rfl rfl
  | false =>
    (repeat (first | refine aSeq fun X hX => ?_ | refine aBlk ?_ | refine aSkip ?_ | (first | refine aExit ?_ | refine aRet ?_); try simp only [slx, ↓reduceIte, jA, reduceCtorEq] | (first | refine aReg ?_ | refine aDrE ?_); simp -implicitDefEqProofs only [forall_eq, ↓slp, slb, ↓reduceIte, reduceCtorEq, jA, jB, jC, jD, jE, jF, jG, jH, jI, jJ, jK, tfTmL, c1]; try simp only [fo] | refine hX _ _ ?_; clear hX X | clear hX X; refine hX _ _ ?_; clear hX X | clear hX X; clear hX X; refine hX _ _ ?_; clear hX X | intro hlen; unfold maxLen at hlen | apply And.intro; focus (first | omega | assumption | (repeat' apply And.intro) <;> first | omega | assumption)))
    refine callE (awake_run _) ?_
    simp -implicitDefEqProofs only [↓slp, slb, ↓reduceIte, reduceCtorEq, jA, jB, jC, jD, jE, jF, jG, jH, jI, jJ, jK, tfTmL, c1]; try simp only [fo]
    (repeat (first | refine aSeq fun X hX => ?_ | refine aBlk ?_ | refine aSkip ?_ | (first | refine aExit ?_ | refine aRet ?_); try simp only [slx, ↓reduceIte, jA, reduceCtorEq] | (first | refine aReg ?_ | refine aIf ?_); simp -implicitDefEqProofs only [forall_eq, ↓slp, slb, ↓reduceIte, reduceCtorEq, jA, jB, jC, jD, jE, jF, jG, jH, jI, jJ, jK, tfTmL, c1]; try simp only [fo] | refine hX _ _ ?_; clear hX X | clear hX X; refine hX _ _ ?_; clear hX X | clear hX X; clear hX X; refine hX _ _ ?_; clear hX X | intro hlen; unfold maxLen at hlen | apply And.intro; focus (first | omega | assumption | (repeat' apply And.intro) <;> first | omega | assumption)))
    refine callM (make_any l (by simp at c1; omega) hel _) ?_
    rintro v m' ⟨ns, rfl, hln, hns, rfl⟩
    simp -implicitDefEqProofs only [↓slp, slb, ↓reduceIte, reduceCtorEq, jA, jB, jC, jD, jE, jF, jG, jH, jI, jJ, jK, tfTmL]; try simp only [fo]
    refine callE (checkT_any ns (made_ns hns hln.2) (made_nd hns) _) ?_
    simp -implicitDefEqProofs only [↓slp, slb, ↓reduceIte, reduceCtorEq, jA, jB, jC, jD, jE, jF, jG, jH, jI, jJ, jK, tfTmL]; try simp only [fo]
    (repeat (first | refine aSeq fun X hX => ?_ | refine aBlk ?_ | refine aSkip ?_ | (first | refine aExit ?_ | refine aRet ?_); try simp only [slx, ↓reduceIte, jA, reduceCtorEq] | (first | refine aReg ?_ | refine aIf ?_); simp -implicitDefEqProofs only [forall_eq, ↓slp, slb, ↓reduceIte, reduceCtorEq, jA, jB, jC, jD, jE, jF, jG, jH, jI, jJ, jK, tfTmL]; try simp only [fo] | refine hX _ _ ?_; clear hX X | clear hX X; refine hX _ _ ?_; clear hX X | clear hX X; clear hX X; refine hX _ _ ?_; clear hX X | intro hlen; unfold maxLen at hlen | apply And.intro; focus (first | omega | assumption | (repeat' apply And.intro) <;> first | omega | assumption)))
    simp only [aPost, Tryd.results4, aRes_n, aRes_t, aRes_c, pack_one, pack_two]
    exact leave_same rfl rfl
end Go.Proofs.YticdboelpgalpaaDoor
