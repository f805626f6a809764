/-
  Texts that belong together: CeRun8, CeRun9, CeRunA, CeRunB.
-/
import Derived.Test.YtepjjgnkhcjpcaaCeG3
import Derived.Test.YtepjjgnkhcjpcaaAbRun7
/-
  The machine's call: the walk, and all of a run by its depth.
-/
set_option linter.unusedVariables false
set_option linter.unusedSimpArgs false
namespace Go.Proofs.Ytepjjgnkhcjpcaa
open Nat renaming reduceEqDiff → jA, reduceAdd → jB, reduceMul → jC, reduceLT → jD, reduceLeDiff → jE, reduceBEq → jF, reduceBNe → jG
open Int renaming reduceLE → jH, reduceLT → jI, reduceToNat → jJ, reduceEq → jK
open Go
-- EXX: CS.settle_pv, CS.pure_pv, CS.cells_pv, CFn.cells_pv, CFn.cs, Cx.frame
set_option maxRecDepth 20000
-- TNAMES: int; uint8; int32; string; bool; *int; clite.Func; clite.frame; *clite.frame; clite.fault; clite.Machine; *clite.Machine; clite.Prog; []bool; []int32; []clite.Struct; []clite.Func; clite.Expr; []clite.Expr; clite.Stmt; []clite.Stmt; []string; map[string]int32
set_option linter.defProp false
def tfCeRun8 := And.intro @tfA (And.intro @Ex.settle_pv (And.intro @Ex.pure_pv (And.intro @Ex.cells_pv (And.intro @Ex.cs.eq_1 (And.intro @On.pv.eq_1 (And.intro @Ty.pv.eq_1 (And.intro @Va.settle_pv (And.intro @Va.pure_pv (And.intro @Va.cells_pv (And.intro @Va.cs.eq_1 (And.intro @CS.settle_pv (And.intro @CS.pure_pv (And.intro @CS.cells_pv (And.intro @CFn.cells_pv (And.intro @CFn.cs.eq_1 @Cx.frame.eq_1)))))))))))))))

theorem CRn.bind_id {r : CRn (List Int)} (x : Unit) : r.bind (fun r m => .ok ([] ++ r) m) = r := by cases r <;> rfl
theorem all_st (d : Nat) (hM : MCallC (d - 1)) (s : CS) : s.good → StC d s := by
  refine CS.rec (motive_1 := fun s => s.good → StC d s) (motive_2 := fun l => CS.goods l → ∀ x ∈ l, StC d x) ?_ ?_ ?_ s
  · intro kind name part e thn els args outs ih1 ih2 hg
    exact st_run d kind name part e thn els args outs hg (sts_run d thn (ih1 hg.2.2.1)) (sts_run d els (ih2 hg.2.2.2.1)) (fcall_run d hM kind name part e thn els args outs hg)
  · intro _ x hx; cases hx
  · intro x l h1 h2 hg y hy
    rcases List.mem_cons.1 hy with rfl | hy
    · exact h1 hg.1
    · exact h2 hg.2 y hy
theorem all_sts (d : Nat) (hM : MCallC (d - 1)) (l : List CS) (hg : CS.goods l) : StsC d l := sts_run d l fun x hx => all_st d hM x (CS.goods_mem l hg x hx)
theorem ChgT.chgE {ids : List Nat} {m m1 m2 : M} {e : Nat} (h : ChgT ids m m1) (h2 : Chg (e :: ids) m1 m2) (he : m.nb ≤ e) : ChgT ids m m2 :=
  ⟨by rw [h2.nb]; exact h.nb, by unfold M.nt; rw [h2.toks]; exact h.nt, by rw [h2.toks]; exact h.toks, fun k hk hi => (h2.get k (by simp only [List.mem_cons, not_or]; exact ⟨by omega, hi⟩)).trans (h.get k hk hi)⟩
theorem ChgT.ext (ids : List Nat) (m : M) (bs : List (Option (List PV))) : ChgT ids m (m.ext bs) :=
  ⟨by rw [ext_nb]; omega, Nat.le_refl _, by show m.toks.take m.nt = m.toks; simp [M.nt], fun k hk _ => ext_old' hk⟩
theorem mcall_bad1 {un : Int → Int → Int} {bin : Int → Int → Int → Int} {L : List Sr} {fns : List CFn} (d : Nat) {name : Str} {base : Int} {xs : List Int} {s : CM} (h : findF fns name < 0 ∨ xs.length ≠ (fns.getD (findF fns name).toNat noFn).ins.length) : mcallC un bin L fns d name base xs s = .bad 1 s := by
  cases d <;> (unfold mcallC; rw [if_pos h])
set_option maxHeartbeats 8000000 in
theorem mcall_run (d : Nat) (hd6 : d ≤ 1000000) (hS : ∀ l, 1 ≤ d → CS.goods l → StsC d l) : MCallC d := by
  intro p L fns s m o name base xs hp hL hF hG h hx32
  have hu := Try.underlying88
  have hm := h.mid
  have cF := fun m => findFn_any .no .no L fns name m
  obtain ⟨EV, hEV0⟩ : ∃ EV, mcallC unN binN L fns d name base xs s = EV := ⟨_, rfl⟩
  rw [hEV0]
  refine ACallsZ.enter (mu := [63]) ok_mix Try.func35 rfl (by kernel_rfl) (by kernel_rfl) (by simp only [List.length_cons, List.length_nil, Try.ntmps35]; omega) ?_
  (repeat (first | refine aSeq fun X hX => ?_ | refine aBlk ?_ | refine aSkip ?_ | (first | refine aExit ?_ | refine aRet ?_); try simp only [slx, ↓reduceIte, Nat.reduceEqDiff, reduceCtorEq] | (first | refine aReg ?_ | refine aDrE ?_); simp -implicitDefEqProofs only [forall_eq, ↓slp, slb, ↓reduceIte, reduceCtorEq, jA, jB, jC, jD, jE, jF, jG, jH, jI, jJ, jK, tfCeRun8, hm] | refine hX _ _ ?_; clear hX X | clear hX X; refine hX _ _ ?_; clear hX X | clear hX X; clear hX X; refine hX _ _ ?_; clear hX X | intro hlen; unfold maxLen at hlen | apply And.intro; focus (first | omega | assumption | (repeat' apply And.intro) <;> first | omega | assumption)))
  refine callE (cF _) ?_
  rcases findF_in fns name with hi | ⟨k, hkl, hi⟩
  · have hbad : EV = .bad 1 s := by rw [← hEV0]; exact mcall_bad1 (un := unN) (bin := binN) (L := L) d (base := base) (xs := xs) (s := s) (.inl (by rw [hi]; omega : findF fns name < 0))
    rw [hi]
    have c3 : decide ((-1 : Int) < 0) = true := rfl
    simp -implicitDefEqProofs only [↓slp, slb, ↓reduceIte, reduceCtorEq, jA, jB, jC, jD, jE, jF, jG, jH, jI, jJ, jK, tfCeRun8, pI, hm, c3]
    (repeat (first | refine aSeq fun X hX => ?_ | refine aBlk ?_ | refine aSkip ?_ | (first | refine aExit ?_ | refine aRet ?_); try simp only [slx, ↓reduceIte, Nat.reduceEqDiff, reduceCtorEq] | (first | refine aReg ?_ | refine aDrE ?_); simp -implicitDefEqProofs only [forall_eq, ↓slp, slb, ↓reduceIte, reduceCtorEq, jA, jB, jC, jD, jE, jF, jG, jH, jI, jJ, jK, tfCeRun8, pI, hm, c3] | refine hX _ _ ?_; clear hX X | clear hX X; refine hX _ _ ?_; clear hX X | clear hX X; clear hX X; refine hX _ _ ?_; clear hX X | intro hlen; unfold maxLen at hlen | apply And.intro; focus (first | omega | assumption | (repeat' apply And.intro) <;> first | omega | assumption)))
    refine aIf ?_; simp -implicitDefEqProofs only [↓slp, slb, ↓reduceIte, reduceCtorEq, jA, jB, jC, jD, jE, jF, jG, jH, jI, jJ, jK]
    (repeat (first | refine aSeq fun X hX => ?_ | refine aBlk ?_ | refine aSkip ?_ | (first | refine aExit ?_ | refine aRet ?_); try simp only [slx, ↓reduceIte, Nat.reduceEqDiff, reduceCtorEq] | (first | refine aReg ?_ | refine aDrE ?_); simp -implicitDefEqProofs only [forall_eq, ↓slp, slb, ↓reduceIte, reduceCtorEq, jA, jB, jC, jD, jE, jF, jG, jH, jI, jJ, jK, tfCeRun8, hu] | refine hX _ _ ?_; clear hX X | clear hX X; refine hX _ _ ?_; clear hX X | clear hX X; clear hX X; refine hX _ _ ?_; clear hX X | intro hlen; unfold maxLen at hlen | apply And.intro; focus (first | omega | assumption | (repeat' apply And.intro) <;> first | omega | assumption)))
    exact leave_chg (.refl p.ids _) h.pure rfl ⟨1, s, hbad, rfl, h, .refl _ _⟩
  rw [hi]
  have hge : fns.getD ((k : Int).toNat) noFn = fns[k] := by rw [Int.toNat_natCast]; simp [hkl]
  have c3 : decide ((k : Int) < 0) = false := by simp
  have g0 := getD_map CFn.pv fns k hkl
  cases c5 : ((xs.length : Int) == (fns[k].ins.length : Int)) with
  | false =>
    have hbad : EV = .bad 1 s := by rw [← hEV0]; exact mcall_bad1 (un := unN) (bin := binN) (L := L) d (base := base) (xs := xs) (s := s) (name := name) (fns := fns) (.inr (by rw [hi, hge]; simp at c5; omega))
    simp -implicitDefEqProofs only [↓slp, slb, ↓reduceIte, reduceCtorEq, jA, jB, jC, jD, jE, jF, jG, jH, jI, jJ, jK, tfCeRun8, pI, hm, c3]
    (repeat (first | refine aSeq fun X hX => ?_ | refine aBlk ?_ | refine aSkip ?_ | (first | refine aExit ?_ | refine aRet ?_); try simp only [slx, ↓reduceIte, Nat.reduceEqDiff, reduceCtorEq] | (first | refine aReg ?_ | refine aDrE ?_); simp -implicitDefEqProofs only [forall_eq, ↓slp, slb, ↓reduceIte, reduceCtorEq, jA, jB, jC, jD, jE, jF, jG, jH, jI, jJ, jK, tfCeRun8, pI, hm, c3, g0, c5] | refine hX _ _ ?_; clear hX X | clear hX X; refine hX _ _ ?_; clear hX X | clear hX X; clear hX X; refine hX _ _ ?_; clear hX X | intro hlen; unfold maxLen at hlen | apply And.intro; focus (first | omega | assumption | (repeat' apply And.intro) <;> first | omega | assumption)))
    refine aIf ?_; simp -implicitDefEqProofs only [↓slp, slb, ↓reduceIte, reduceCtorEq, jA, jB, jC, jD, jE, jF, jG, jH, jI, jJ, jK]
    (repeat (first | refine aSeq fun X hX => ?_ | refine aBlk ?_ | refine aSkip ?_ | (first | refine aExit ?_ | refine aRet ?_); try simp only [slx, ↓reduceIte, Nat.reduceEqDiff, reduceCtorEq] | (first | refine aReg ?_ | refine aDrE ?_); simp -implicitDefEqProofs only [forall_eq, ↓slp, slb, ↓reduceIte, reduceCtorEq, jA, jB, jC, jD, jE, jF, jG, jH, jI, jJ, jK, tfCeRun8, hu] | refine hX _ _ ?_; clear hX X | clear hX X; refine hX _ _ ?_; clear hX X | clear hX X; clear hX X; refine hX _ _ ?_; clear hX X | intro hlen; unfold maxLen at hlen | apply And.intro; focus (first | omega | assumption | (repeat' apply And.intro) <;> first | omega | assumption)))
    exact leave_chg (.refl p.ids _) h.pure rfl ⟨1, s, hbad, rfl, h, .refl _ _⟩
  | true =>
  have h5 : xs.length = fns[k].ins.length := by simp at c5; omega
  have hcond : ¬ (findF fns name < 0 ∨ xs.length ≠ (fns.getD (findF fns name).toNat noFn).ins.length) := by
    rw [hi, hge]
    rintro (h | h)
    · omega
    · exact h h5
  cases c6 : decide ((d : Int) < 1) with
  | true =>
    obtain rfl : d = 0 := by simp at c6; omega
    have hbad : EV = .bad 5 s := by rw [← hEV0]; unfold mcallC; rw [if_neg hcond]
    simp -implicitDefEqProofs only [↓slp, slb, ↓reduceIte, reduceCtorEq, jA, jB, jC, jD, jE, jF, jG, jH, jI, jJ, jK, tfCeRun8, pI, hm, c3]
    (repeat (first | refine aSeq fun X hX => ?_ | refine aBlk ?_ | refine aSkip ?_ | (first | refine aExit ?_ | refine aRet ?_); try simp only [slx, ↓reduceIte, Nat.reduceEqDiff, reduceCtorEq] | (first | refine aReg ?_ | refine aDrE ?_); simp -implicitDefEqProofs only [forall_eq, ↓slp, slb, ↓reduceIte, reduceCtorEq, jA, jB, jC, jD, jE, jF, jG, jH, jI, jJ, jK, tfCeRun8, pI, hm, c3, g0, c5] | refine hX _ _ ?_; clear hX X | clear hX X; refine hX _ _ ?_; clear hX X | clear hX X; clear hX X; refine hX _ _ ?_; clear hX X | intro hlen; unfold maxLen at hlen | apply And.intro; focus (first | omega | assumption | (repeat' apply And.intro) <;> first | omega | assumption)))
    refine aIf ?_; simp -implicitDefEqProofs only [↓slp, slb, ↓reduceIte, reduceCtorEq, jA, jB, jC, jD, jE, jF, jG, jH, jI, jJ, jK]
    (repeat (first | refine aSeq fun X hX => ?_ | refine aBlk ?_ | refine aSkip ?_ | (first | refine aExit ?_ | refine aRet ?_); try simp only [slx, ↓reduceIte, Nat.reduceEqDiff, reduceCtorEq] | (first | refine aReg ?_ | refine aDrE ?_); simp -implicitDefEqProofs only [forall_eq, ↓slp, slb, ↓reduceIte, reduceCtorEq, jA, jB, jC, jD, jE, jF, jG, jH, jI, jJ, jK, tfCeRun8, c6] | refine hX _ _ ?_; clear hX X | clear hX X; refine hX _ _ ?_; clear hX X | clear hX X; clear hX X; refine hX _ _ ?_; clear hX X | intro hlen; unfold maxLen at hlen | apply And.intro; focus (first | omega | assumption | (repeat' apply And.intro) <;> first | omega | assumption)))
    refine aIf ?_; simp -implicitDefEqProofs only [↓slp, slb, ↓reduceIte, reduceCtorEq, jA, jB, jC, jD, jE, jF, jG, jH, jI, jJ, jK]
    (repeat (first | refine aSeq fun X hX => ?_ | refine aBlk ?_ | refine aSkip ?_ | (first | refine aExit ?_ | refine aRet ?_); try simp only [slx, ↓reduceIte, Nat.reduceEqDiff, reduceCtorEq] | (first | refine aReg ?_ | refine aDrE ?_); simp -implicitDefEqProofs only [forall_eq, ↓slp, slb, ↓reduceIte, reduceCtorEq, jA, jB, jC, jD, jE, jF, jG, jH, jI, jJ, jK, tfCeRun8, hu] | refine hX _ _ ?_; clear hX X | clear hX X; refine hX _ _ ?_; clear hX X | clear hX X; clear hX X; refine hX _ _ ?_; clear hX X | intro hlen; unfold maxLen at hlen | apply And.intro; focus (first | omega | assumption | (repeat' apply And.intro) <;> first | omega | assumption)))
    exact leave_chg (.refl p.ids _) h.pure rfl ⟨5, s, hbad, rfl, h, .refl _ _⟩
  | false =>
  have hd1 : 1 ≤ d := by simp at c6; omega
  simp -implicitDefEqProofs only [↓slp, slb, ↓reduceIte, reduceCtorEq, jA, jB, jC, jD, jE, jF, jG, jH, jI, jJ, jK, tfCeRun8, pI, hm, c3]
  (repeat (first | refine aSeq fun X hX => ?_ | refine aBlk ?_ | refine aSkip ?_ | (first | refine aExit ?_ | refine aRet ?_); try simp only [slx, ↓reduceIte, Nat.reduceEqDiff, reduceCtorEq] | (first | refine aReg ?_ | refine aDrE ?_); simp -implicitDefEqProofs only [forall_eq, ↓slp, slb, ↓reduceIte, reduceCtorEq, jA, jB, jC, jD, jE, jF, jG, jH, jI, jJ, jK, tfCeRun8, pI, hm, c3, g0, c5] | refine hX _ _ ?_; clear hX X | clear hX X; refine hX _ _ ?_; clear hX X | clear hX X; clear hX X; refine hX _ _ ?_; clear hX X | intro hlen; unfold maxLen at hlen | apply And.intro; focus (first | omega | assumption | (repeat' apply And.intro) <;> first | omega | assumption)))
  refine aIf ?_; simp -implicitDefEqProofs only [↓slp, slb, ↓reduceIte, reduceCtorEq, jA, jB, jC, jD, jE, jF, jG, jH, jI, jJ, jK]
  (repeat (first | refine aSeq fun X hX => ?_ | refine aBlk ?_ | refine aSkip ?_ | (first | refine aExit ?_ | refine aRet ?_); try simp only [slx, ↓reduceIte, Nat.reduceEqDiff, reduceCtorEq] | (first | refine aReg ?_ | refine aDrE ?_); simp -implicitDefEqProofs only [forall_eq, ↓slp, slb, ↓reduceIte, reduceCtorEq, jA, jB, jC, jD, jE, jF, jG, jH, jI, jJ, jK, tfCeRun8, c6] | refine hX _ _ ?_; clear hX X | clear hX X; refine hX _ _ ?_; clear hX X | clear hX X; clear hX X; refine hX _ _ ?_; clear hX X | intro hlen; unfold maxLen at hlen | apply And.intro; focus (first | omega | assumption | (repeat' apply And.intro) <;> first | omega | assumption)))
  refine aIf ?_; simp -implicitDefEqProofs only [↓slp, slb, ↓reduceIte, reduceCtorEq, jA, jB, jC, jD, jE, jF, jG, jH, jI, jJ, jK]
  (repeat (first | refine aSeq fun X hX => ?_ | refine aBlk ?_ | refine aSkip ?_ | (first | refine aExit ?_ | refine aRet ?_); try simp only [slx, ↓reduceIte, Nat.reduceEqDiff, reduceCtorEq] | (first | refine aReg ?_ | refine aDrE ?_); simp -implicitDefEqProofs only [forall_eq, ↓slp, slb, ↓reduceIte, reduceCtorEq, jA, jB, jC, jD, jE, jF, jG, jH, jI, jJ, jK, tfCeRun8, hm, g0] | refine hX _ _ ?_; clear hX X | clear hX X; refine hX _ _ ?_; clear hX X | clear hX X; clear hX X; refine hX _ _ ?_; clear hX X | intro hlen; unfold maxLen at hlen | apply And.intro; focus (first | omega | assumption | (repeat' apply And.intro) <;> first | omega | assumption)))
  obtain ⟨d0, rfl⟩ : ∃ d0, d = d0 + 1 := ⟨d - 1, by omega⟩
  obtain ⟨c, hc⟩ : ∃ c : Cx, c = ⟨p, L, fns, m.nb + 1, m.nb, fns[k], base, d0 + 1⟩ := ⟨_, rfl⟩
  have hcp : c.p = p := by rw [hc]
  have hcfid : c.fid = m.nb + 1 := by rw [hc]
  have hceid : c.eid = m.nb := by rw [hc]
  have hcfn : c.fn = fns[k] := by rw [hc]
  have hcd : c.deep = d0 + 1 := by rw [hc]
  have b1 := get_nb h.mid
  have b2 := get_nb h.mem
  have b3 := get_nb h.tch
  have b4 := get_nb h.lid
  have hk : c.ok := by subst hc; exact ⟨hp, hL, hF, ⟨by show m.nb ≠ p.mid; omega, by show m.nb ≠ p.memid; omega, by show m.nb ≠ p.tid; omega, by show m.nb ≠ p.lid; omega⟩, ⟨by show m.nb + 1 ≠ m.nb; omega, by show m.nb + 1 ≠ p.memid; omega, by show m.nb + 1 ≠ p.tid; omega, by show m.nb + 1 ≠ p.lid; omega⟩⟩
  have hdk : c.deepOk := by subst hc; exact ⟨hd1, hd6, hG⟩
  have hEV : EV = (c.sts fns[k].body (Env.puts [] fns[k].ins xs) s).bind fun env m => outsC env fns[k].outs m := by
    subst hc
    rw [← hEV0, mcallC, if_neg hcond, hi, hge]
    rfl
  clear hEV0
  have hT0 : ∀ bs, ChgT p.ids m (m.ext bs) := fun bs => .ext _ _ _
  obtain ⟨mE, hmE⟩ : ∃ mE, m.ext [some [.tp [], .tp []], some [.bp p.mid 0, .v (.string fns[k].name), .v (.string fns[k].self), pSL fns[k].ins, pSL fns[k].outs, pSL fns[k].locals, .sl .no (fns[k].body.map CS.pv), .v (.int .i64 base), .mp m.nb, .bp p.lid 0, .v (.int .i64 ((d0 + 1 : Nat) : Int))]] = mE := ⟨_, rfl⟩
  have hTE : ChgT p.ids m mE := by rw [← hmE]; exact .ext _ _ _
  have hAt : c.At s [] mE := by
    subst hc
    rw [← hmE]
    exact ⟨h.of (ext_old' b1) (ext_old' b2) (ext_old' b3) (ext_old' b4), ext_get (i := 1) rfl, ext_get (i := 0) rfl, fun x hx => by cases hx⟩
  rw [hmE]
  clear hmE
  obtain ⟨I, hI⟩ : ∃ I : F → M → Prop, ∀ f m', I f m' = (∃ (q : Nat) (env' : Env), q ≤ fns[k].ins.length ∧ f 3 = .sl o (xs.map pJ) ∧ f 14 = .bp c.fid 0 ∧ f 68 = pSL fns[k].ins ∧ f 69 = .v (.int .i64 fns[k].ins.length) ∧ f 70 = .v (.int .i64 q) ∧ c.At s env' m' ∧ ChgT p.ids m m' ∧ Env.puts [] fns[k].ins xs = Env.puts env' (fns[k].ins.drop q) (xs.drop q)) := ⟨_, fun _ _ => rfl⟩
  refine aLoop I (fun f m => fns[k].ins.length - numOf (f 70)) ?_ ?_
  · rw [hI]; exact ⟨0, [], by omega, rfl, by rw [hcfid]; rfl, rfl, rfl, rfl, hAt, hTE, rfl⟩
  intro f m1 hrel
  rw [hI] at hrel
  obtain ⟨q, env1, hql, f3, f14, f68, f69, f70, h1, hT1, hev⟩ := hrel
  obtain ⟨Pf, hPf⟩ : ∃ Pf : M → Prop, ∀ m2, Pf m2 ↔ m2.get c.fid = some c.frame := ⟨_, fun _ => Iff.rfl⟩
  have gS : ∀ x : Subtype Pf, x.1.get c.fid = some c.frame := fun x => (hPf _).1 x.2
  have hmp : tmap Try.prog 98 = some 21 := by kernel_rfl
  have hbE : m.nb ≤ c.eid := by rw [hceid]; exact Nat.le_refl _
  cases c7 : decide ((q : Int) < (fns[k].ins.length : Int)) with
  | true =>
    have hlt : q < fns[k].ins.length := by simpa using c7
    have hlt2 : q < xs.length := by omega
    have ga := getD_map (fun s : Str => PV.v (Value.string s)) fns[k].ins q hlt
    have gb := getD_map pJ xs q hlt2
    have hi1 : IntKind.i64.wrap ((q : Int) + 1) = ((q + 1 : Nat) : Int) := by rw [wrap64 (by omega)]; omega
    have hme : numOf (f 70) = q := by rw [f70]; exact Int.toNat_natCast q
    rw [List.drop_eq_getElem_cons hlt, List.drop_eq_getElem_cons hlt2, Env.puts] at hev
    have fr1 := h1.fr
    have ge := h1.en
    have hpm := mapPut_env fns[k].ins[q] xs[q] env1
    (repeat (first | refine aSeq fun X hX => ?_ | refine aBlk ?_ | refine aSkip ?_ | (first | refine aExit ?_ | refine aRet ?_); try simp only [slx, ↓reduceIte, Nat.reduceEqDiff, reduceCtorEq] | (first | refine aReg ?_ | refine aDrE ?_); simp -implicitDefEqProofs only [forall_eq, ↓slp, slb, ↓reduceIte, reduceCtorEq, jA, jB, jC, jD, jE, jF, jG, jH, jI, jJ, jK, tfCeRun8, f3, f14, f68, f69, f70, c7] | refine hX _ _ ?_; clear hX X | clear hX X; refine hX _ _ ?_; clear hX X | clear hX X; clear hX X; refine hX _ _ ?_; clear hX X | intro hlen; unfold maxLen at hlen | apply And.intro; focus (first | omega | assumption | (repeat' apply And.intro) <;> first | omega | assumption)))
    refine aIf ?_; simp -implicitDefEqProofs only [↓slp, slb, ↓reduceIte, reduceCtorEq, jA, jB, jC, jD, jE, jF, jG, jH, jI, jJ, jK]
    (repeat (first | refine aSeq fun X hX => ?_ | refine aBlk ?_ | refine aSkip ?_ | (first | refine aExit ?_ | refine aRet ?_); try simp only [slx, ↓reduceIte, Nat.reduceEqDiff, reduceCtorEq] | (first | refine aReg ?_ | refine aIf ?_); simp -implicitDefEqProofs only [forall_eq, ↓slp, slb, ↓reduceIte, reduceCtorEq, jA, jB, jC, jD, jE, jF, jG, jH, jI, jJ, jK, tfCeRun8, f3, f14, f68, f69, f70, ga] | refine hX _ _ ?_; clear hX X | clear hX X; refine hX _ _ ?_; clear hX X | clear hX X; clear hX X; refine hX _ _ ?_; clear hX X | intro hlen; unfold maxLen at hlen | apply And.intro; focus (first | omega | assumption | (repeat' apply And.intro) <;> first | omega | assumption)))
    refine aDrw (isP Pf) (by kernel_rfl) (isP_of ((hPf _).2 fr1)) ?_
    simp -implicitDefEqProofs only [↓slp, slb, ↓reduceIte, reduceCtorEq, jA, jB, jC, jD, jE, jF, jG, jH, jI, jJ, jK, tfCeRun8, isP_all, f3, f14, fr1, gS, gb, ge, hmp, hpm]
    have h4 := h1.put hk fns[k].ins[q] xs[q] (hx32 _ (List.getElem_mem hlt2))
    have hc4 : Chg (c.eid :: p.ids) m1 _ := .upd m1 (id := c.eid) [.tp (envK (env1.put fns[k].ins[q] xs[q])), .tp (envV (env1.put fns[k].ins[q] xs[q]))] (by simp)
    refine ⟨hlt2, isP_of ((hPf _).2 h4.fr), ?_⟩
    (repeat (first | refine aSeq fun X hX => ?_ | refine aBlk ?_ | refine aSkip ?_ | (first | refine aExit ?_ | refine aRet ?_); try simp only [slx, ↓reduceIte, Nat.reduceEqDiff, reduceCtorEq] | (refine hX _ _ ?_; clear hX X) | (clear hX X; refine hX _ _ ?_; clear hX X)))
    (repeat (first | refine aSeq fun X hX => ?_ | refine aBlk ?_ | refine aSkip ?_ | (first | refine aExit ?_ | refine aRet ?_); try simp only [slx, ↓reduceIte, Nat.reduceEqDiff, reduceCtorEq] | (first | refine aReg ?_ | refine aDrE ?_); simp -implicitDefEqProofs only [forall_eq, ↓slp, slb, ↓reduceIte, reduceCtorEq, jA, jB, jC, jD, jE, jF, jG, jH, jI, jJ, jK, tfCeRun8, f70, hi1] | refine hX _ _ ?_; clear hX X | clear hX X; refine hX _ _ ?_; clear hX X | clear hX X; clear hX X; refine hX _ _ ?_; clear hX X | intro hlen; unfold maxLen at hlen | apply And.intro; focus (first | omega | assumption | (repeat' apply And.intro) <;> first | omega | assumption)))
    rw [hI]
    refine ⟨⟨q + 1, _, hlt, f3, f14, f68, f69, rfl, h4, hT1.chgE hc4 hbE, hev⟩, by first | omega | (simp only [↓slp, slb, ↓reduceIte, reduceCtorEq, jA, jB, jC, jD, jE, jF, jG, jH, jI, jJ, jK, f70]; omega)⟩
  | false =>
  obtain rfl : q = fns[k].ins.length := by simp at c7; omega
  rw [List.drop_length, puts_nil] at hev
  rw [hev] at hEV
  clear hev
  have fr1 := h1.fr
  have hbody : CS.goods fns[k].body := (hG _ (List.getElem_mem hkl)).1
  have hoL : fns[k].outs.length ≤ 1000000 := (hG _ (List.getElem_mem hkl)).2
  (repeat (first | refine aSeq fun X hX => ?_ | refine aBlk ?_ | refine aSkip ?_ | (first | refine aExit ?_ | refine aRet ?_); try simp only [slx, ↓reduceIte, Nat.reduceEqDiff, reduceCtorEq] | (first | refine aReg ?_ | refine aDrE ?_); simp -implicitDefEqProofs only [forall_eq, ↓slp, slb, ↓reduceIte, reduceCtorEq, jA, jB, jC, jD, jE, jF, jG, jH, jI, jJ, jK, tfCeRun8, f3, f14, f68, f69, f70, c7] | refine hX _ _ ?_; clear hX X | clear hX X; refine hX _ _ ?_; clear hX X | clear hX X; clear hX X; refine hX _ _ ?_; clear hX X | intro hlen; unfold maxLen at hlen | apply And.intro; focus (first | omega | assumption | (repeat' apply And.intro) <;> first | omega | assumption)))
  refine aIf ?_; simp -implicitDefEqProofs only [↓slp, slb, ↓reduceIte, reduceCtorEq, jA, jB, jC, jD, jE, jF, jG, jH, jI, jJ, jK]
  (repeat (first | refine aSeq fun X hX => ?_ | refine aBlk ?_ | refine aSkip ?_ | (first | refine aExit ?_ | refine aRet ?_); try simp only [slx, ↓reduceIte, Nat.reduceEqDiff, reduceCtorEq] | (first | refine aReg ?_ | refine aDrE ?_); simp -implicitDefEqProofs only [forall_eq, ↓slp, slb, ↓reduceIte, reduceCtorEq, jA, jB, jC, jD, jE, jF, jG, jH, jI, jJ, jK, tfCeRun8, f3, f14, fr1, hcfn] | refine hX _ _ ?_; clear hX X | clear hX X; refine hX _ _ ?_; clear hX X | clear hX X; clear hX X; refine hX _ _ ?_; clear hX X | intro hlen; unfold maxLen at hlen | apply And.intro; focus (first | omega | assumption | (repeat' apply And.intro) <;> first | omega | assumption)))
  refine callP (hS fns[k].body hd1 hbody c s env1 m1 hcd hk hdk h1) ?_ ?_
  · rintro v m' ⟨⟨how, s', hr, rfl, hrs, hcc⟩, w, hw⟩
    rw [CRn.bind_bad hr] at hEV
    rw [hcp] at hcc hrs
    have hT := hT1.chgE hcc hbE
    have hrs' : RS p L fns s' m' := by rw [hc] at hrs; exact hrs
    exact leave_T hT hrs'.pure rfl ⟨how, s', hEV, rfl, h.cut hrs', hT.cut⟩
  rintro v m2 ⟨env2, s2, hr, h2, hc2⟩
  rw [CRn.bind_ok hr] at hEV
  rw [hcp] at hc2
  have hT2 := hT1.chgE hc2 hbE
  have fr2 := h2.fr
  simp -implicitDefEqProofs only [↓slp, slb, ↓reduceIte, reduceCtorEq, jA, jB, jC, jD, jE, jF, jG, jH, jI, jJ, jK, tfCeRun8, f3, f14]
  (repeat (first | refine aSeq fun X hX => ?_ | refine aBlk ?_ | refine aSkip ?_ | (first | refine aExit ?_ | refine aRet ?_); try simp only [slx, ↓reduceIte, Nat.reduceEqDiff, reduceCtorEq] | (first | refine aReg ?_ | refine aDrE ?_); simp -implicitDefEqProofs only [forall_eq, ↓slp, slb, ↓reduceIte, reduceCtorEq, jA, jB, jC, jD, jE, jF, jG, jH, jI, jJ, jK, tfCeRun8, f3, f14, fr2, hcfn] | refine hX _ _ ?_; clear hX X | clear hX X; refine hX _ _ ?_; clear hX X | clear hX X; clear hX X; refine hX _ _ ?_; clear hX X | intro hlen; unfold maxLen at hlen | apply And.intro; focus (first | omega | assumption | (repeat' apply And.intro) <;> first | omega | assumption)))
  have h2rs : RS p L fns s2 m2 := by have := h2.rs; rw [hc] at this; exact this
  obtain ⟨I3, hI3⟩ : ∃ I3 : F → M → Prop, ∀ f m', I3 f m' = (∃ (q : Nat) (ys : List Int) (o3 : Own), q ≤ fns[k].outs.length ∧ ys.length = q ∧ f 14 = .bp c.fid 0 ∧ f 17 = .sl o3 (ys.map pJ) ∧ f 96 = pSL fns[k].outs ∧ f 97 = .v (.int .i64 fns[k].outs.length) ∧ f 98 = .v (.int .i64 q) ∧ c.At s2 env2 m' ∧ ChgT p.ids m m' ∧ Mine m m' o3 1 ∧ (∀ y ∈ ys, R32 y) ∧ EV = (outsC env2 (fns[k].outs.drop q) s2).bind fun r m => .ok (ys ++ r) m) := ⟨_, fun _ _ => rfl⟩
  refine aLoop I3 (fun f m => fns[k].outs.length - numOf (f 98)) ?_ ?_
  · rw [hI3]
    exact ⟨0, [], .full, by omega, rfl, f14, rfl, rfl, rfl, rfl, h2, hT2, .full, (fun y hy => nomatch hy), (by rw [hEV, List.drop_zero]; exact (CRn.bind_id ()).symm)⟩
  intro f m3 hrel
  rw [hI3] at hrel
  obtain ⟨q, ys, o3, hql, hyl, g14, g17, g96, g97, g98, h3, hT3, ho3, hy32, hev⟩ := hrel
  clear hEV
  have h3rs : RS p L fns s2 m3 := by have := h3.rs; rw [hc] at this; exact this
  cases c8 : decide ((q : Int) < (fns[k].outs.length : Int)) with
  | false =>
    obtain rfl : q = fns[k].outs.length := by simp at c8; omega
    have hev2 : EV = .ok ys s2 := by rw [hev, List.drop_length, outsC, CRn.bind, List.append_nil]
    (repeat (first | refine aSeq fun X hX => ?_ | refine aBlk ?_ | refine aSkip ?_ | (first | refine aExit ?_ | refine aRet ?_); try simp only [slx, ↓reduceIte, Nat.reduceEqDiff, reduceCtorEq] | (first | refine aReg ?_ | refine aDrE ?_); simp -implicitDefEqProofs only [forall_eq, ↓slp, slb, ↓reduceIte, reduceCtorEq, jA, jB, jC, jD, jE, jF, jG, jH, jI, jJ, jK, tfCeRun8, g14, g17, g96, g97, g98, c8] | refine hX _ _ ?_; clear hX X | clear hX X; refine hX _ _ ?_; clear hX X | clear hX X; clear hX X; refine hX _ _ ?_; clear hX X | intro hlen; unfold maxLen at hlen | apply And.intro; focus (first | omega | assumption | (repeat' apply And.intro) <;> first | omega | assumption)))
    refine aIf ?_; simp -implicitDefEqProofs only [↓slp, slb, ↓reduceIte, reduceCtorEq, jA, jB, jC, jD, jE, jF, jG, jH, jI, jJ, jK]
    (repeat (first | refine aSeq fun X hX => ?_ | refine aBlk ?_ | refine aSkip ?_ | (first | refine aExit ?_ | refine aRet ?_); try simp only [slx, ↓reduceIte, Nat.reduceEqDiff, reduceCtorEq] | (first | refine aReg ?_ | refine aDrE ?_); simp -implicitDefEqProofs only [forall_eq, ↓slp, slb, ↓reduceIte, reduceCtorEq, jA, jB, jC, jD, jE, jF, jG, jH, jI, jJ, jK, tfCeRun8, g17] | refine hX _ _ ?_; clear hX X | clear hX X; refine hX _ _ ?_; clear hX X | clear hX X; clear hX X; refine hX _ _ ?_; clear hX X | intro hlen; unfold maxLen at hlen | apply And.intro; focus (first | omega | assumption | (repeat' apply And.intro) <;> first | omega | assumption)))
    simp only [aPost, Try.results35, aRes_n, aRes_t, aRes_c, pack_one, pack_two]
    exact leave_T hT3 h3rs.pure rfl ⟨ys, s2, hev2, rfl, hy32, h.cut h3rs, hT3.cut⟩
  | true =>
    have hlt : q < fns[k].outs.length := by simpa using c8
    have ga := getD_map (fun s : Str => PV.v (Value.string s)) fns[k].outs q hlt
    have hi1 : IntKind.i64.wrap ((q : Int) + 1) = ((q + 1 : Nat) : Int) := by rw [wrap64 (by omega)]; omega
    have hme : numOf (f 98) = q := by rw [g98]; exact Int.toNat_natCast q
    rw [List.drop_eq_getElem_cons hlt, outsC] at hev
    (repeat (first | refine aSeq fun X hX => ?_ | refine aBlk ?_ | refine aSkip ?_ | (first | refine aExit ?_ | refine aRet ?_); try simp only [slx, ↓reduceIte, Nat.reduceEqDiff, reduceCtorEq] | (first | refine aReg ?_ | refine aDrE ?_); simp -implicitDefEqProofs only [forall_eq, ↓slp, slb, ↓reduceIte, reduceCtorEq, jA, jB, jC, jD, jE, jF, jG, jH, jI, jJ, jK, tfCeRun8, g14, g17, g96, g97, g98, c8] | refine hX _ _ ?_; clear hX X | clear hX X; refine hX _ _ ?_; clear hX X | clear hX X; clear hX X; refine hX _ _ ?_; clear hX X | intro hlen; unfold maxLen at hlen | apply And.intro; focus (first | omega | assumption | (repeat' apply And.intro) <;> first | omega | assumption)))
    refine aIf ?_; simp -implicitDefEqProofs only [↓slp, slb, ↓reduceIte, reduceCtorEq, jA, jB, jC, jD, jE, jF, jG, jH, jI, jJ, jK]
    (repeat (first | refine aSeq fun X hX => ?_ | refine aBlk ?_ | refine aSkip ?_ | (first | refine aExit ?_ | refine aRet ?_); try simp only [slx, ↓reduceIte, Nat.reduceEqDiff, reduceCtorEq] | (first | refine aReg ?_ | refine aDrE ?_); simp -implicitDefEqProofs only [forall_eq, ↓slp, slb, ↓reduceIte, reduceCtorEq, jA, jB, jC, jD, jE, jF, jG, jH, jI, jJ, jK, tfCeRun8, g14, g17, g96, g97, g98, ga] | refine hX _ _ ?_; clear hX X | clear hX X; refine hX _ _ ?_; clear hX X | clear hX X; clear hX X; refine hX _ _ ?_; clear hX X | intro hlen; unfold maxLen at hlen | apply And.intro; focus (first | omega | assumption | (repeat' apply And.intro) <;> first | omega | assumption)))
    refine callP (localX hk h3 fns[k].outs[q]) ?_ ?_
    · rintro v m' ⟨hn, rfl, rfl⟩
      rw [hn] at hev
      exact leave_T hT3 h3rs.pure rfl ⟨3, s2, hev, rfl, h.cut h3rs, hT3.cut⟩
    rintro v m' ⟨x, hx, rfl, rfl⟩
    rw [hx] at hev
    dsimp only at hev
    rw [CRn.bind_assoc] at hev
    have hfr : o3.free m' 1 := ho3.free
    simp -implicitDefEqProofs only [↓slp, slb, ↓reduceIte, reduceCtorEq, jA, jB, jC, jD, jE, jF, jG, jH, jI, jJ, jK, tfCeRun8, g14, g17, g96, g97, g98]
    (repeat (first | refine aSeq fun X hX => ?_ | refine aBlk ?_ | refine aSkip ?_ | (first | refine aExit ?_ | refine aRet ?_); try simp only [slx, ↓reduceIte, Nat.reduceEqDiff, reduceCtorEq] | (first | refine aReg ?_ | refine aDrE ?_); simp -implicitDefEqProofs only [forall_eq, ↓slp, slb, ↓reduceIte, reduceCtorEq, jA, jB, jC, jD, jE, jF, jG, jH, jI, jJ, jK, tfCeRun8, g14, g17, g96, g97, g98, hi1, hfr] | refine hX _ _ ?_; clear hX X | clear hX X; refine hX _ _ ?_; clear hX X | clear hX X; clear hX X; refine hX _ _ ?_; clear hX X | intro hlen; unfold maxLen at hlen | apply And.intro; focus (first | omega | assumption | (repeat' apply And.intro) <;> first | omega | assumption)))
    refine ⟨⟨hfr, fun y hy => by obtain ⟨z, _, rfl⟩ := List.mem_map.1 hy; rfl, by unfold maxLen; omega, by omega⟩, ?_⟩
    (repeat (first | refine aSeq fun X hX => ?_ | refine aBlk ?_ | refine aSkip ?_ | (first | refine aExit ?_ | refine aRet ?_); try simp only [slx, ↓reduceIte, Nat.reduceEqDiff, reduceCtorEq] | (refine hX _ _ ?_; clear hX X) | (clear hX X; refine hX _ _ ?_; clear hX X)))
    (repeat (first | refine aSeq fun X hX => ?_ | refine aBlk ?_ | refine aSkip ?_ | (first | refine aExit ?_ | refine aRet ?_); try simp only [slx, ↓reduceIte, Nat.reduceEqDiff, reduceCtorEq] | (first | refine aReg ?_ | refine aDrE ?_); simp -implicitDefEqProofs only [forall_eq, ↓slp, slb, ↓reduceIte, reduceCtorEq, jA, jB, jC, jD, jE, jF, jG, jH, jI, jJ, jK, tfCeRun8, g98, hi1] | refine hX _ _ ?_; clear hX X | clear hX X; refine hX _ _ ?_; clear hX X | clear hX X; clear hX X; refine hX _ _ ?_; clear hX X | intro hlen; unfold maxLen at hlen | apply And.intro; focus (first | omega | assumption | (repeat' apply And.intro) <;> first | omega | assumption)))
    rw [hI3]
    refine ⟨⟨q + 1, ys ++ [x], .tok m'.nt, hlt, by simp [hyl], g14, (by show PV.sl _ (ys.map pJ ++ [pJ x]) = _; rw [List.map_append]; rfl), g96, g97, rfl, h3.of (fun k => by rw [fresh_get, use_get]), hT3.fresh ho3, .newT hT3 o3 1, fun y hy => by
      rcases List.mem_append.1 hy with h' | h'
      · exact hy32 y h'
      · rw [List.mem_singleton.1 h']; exact env_find32 h3.e32 hx, ?_⟩, by first | omega | (simp only [↓slp, slb, ↓reduceIte, reduceCtorEq, jA, jB, jC, jD, jE, jF, jG, jH, jI, jJ, jK, g98]; omega)⟩
    rw [hev]
    congr 1
    funext r m
    show CRn.ok (ys ++ x :: r) m = CRn.ok ((ys ++ [x]) ++ r) m
    rw [List.append_assoc]; rfl
theorem mcall_all : ∀ d : Nat, d ≤ 1000000 → MCallC d := by
  intro d
  induction d with
  | zero => intro _; exact mcall_run 0 (by omega) (fun l h _ => by omega)
  | succ d ih => intro hd; exact mcall_run (d + 1) hd (fun l _ hg => all_sts (d + 1) (ih (by omega)) l hg)
end Go.Proofs.Ytepjjgnkhcjpcaa

/-
  The machine's Run: its deferred closure.
-/
set_option linter.unusedVariables false
set_option linter.unusedSimpArgs false
namespace Go.Proofs.Ytepjjgnkhcjpcaa
open Nat renaming reduceEqDiff → jA, reduceAdd → jB, reduceMul → jC, reduceLT → jD, reduceLeDiff → jE, reduceBEq → jF, reduceBNe → jG
open Int renaming reduceLE → jH, reduceLT → jI, reduceToNat → jJ, reduceEq → jK
open Go
-- EXX: CS.settle_pv, CS.pure_pv, CS.cells_pv, CFn.cells_pv, CFn.cs, faultPV
set_option maxRecDepth 20000
-- TNAMES: int; uint8; int32; string; bool; *int; clite.Func; clite.frame; *clite.frame; clite.fault; clite.Machine; *clite.Machine; clite.Prog; []bool; []int32; []clite.Struct; []clite.Func; clite.Expr; []clite.Expr; clite.Stmt; []clite.Stmt; []string; map[string]int32
set_option linter.defProp false
def tfCeRun9 := And.intro @tfA (And.intro @Ex.settle_pv (And.intro @Ex.pure_pv (And.intro @Ex.cells_pv (And.intro @Ex.cs.eq_1 (And.intro @On.pv.eq_1 (And.intro @Ty.pv.eq_1 (And.intro @Va.settle_pv (And.intro @Va.pure_pv (And.intro @Va.cells_pv (And.intro @Va.cs.eq_1 (And.intro @CS.settle_pv (And.intro @CS.pure_pv (And.intro @CS.cells_pv (And.intro @CFn.cells_pv (And.intro @CFn.cs.eq_1 @faultPV.eq_1)))))))))))))))

/-- What a call leaves behind may be struck afterwards. -/
theorem ACalls.leaves {P : Program} {g : FuncId} {args : List PV} {m : M} {R : PV → M → Prop} (h : ACalls P g args m (fun v m1 => ∃ v' m', Leave m m1 v v' m' ∧ R v' m')) : ACalls P g args m R := by
  refine ⟨h.cc, fun G w vs hI hl hr => (h.run G w vs hI hl hr).mono ?_⟩
  rintro e w' (⟨y, v, m1, G1, rfl, ⟨v', m', hlv, hR⟩, h2, h3, h4⟩ | ⟨y, v, m1, G1, rfl, hz, _⟩)
  · obtain ⟨G2, q1, q2, q3⟩ := hlv.sound hI h4 h3 h2
    exact .inl ⟨y, v', m', G2, rfl, hR, q1, q2, q3⟩
  · exact hz.elim
/-- The boxes of a run of the machine: its fuel, what is left; what comes out. -/
structure RB where
  bf : Nat
  bl : Nat
  bo : Nat
  bh : Nat
  bs : Nat
def RB.args (b : RB) : List PV := [.bp b.bf 0, .bp b.bl 0, .bp b.bo 0, .bp b.bh 0, .bp b.bs 0]
set_option maxHeartbeats 2000000 in
theorem clo_ret (b : RB) (m : M) : DRet Try.prog 34 b.args m (fun m' => m' = m) := by
  refine DRet.of (mu := []) ok_mix Try.func34 rfl rfl ⟨rfl, rfl, rfl⟩ (by kernel_rfl) (by decide) (by simp only [RB.args, List.length_cons, List.length_nil, Try.ntmps34]; omega) ?_
  unfold RB.args
  (repeat (first | refine aSeq fun X hX => ?_ | refine aBlk ?_ | refine aSkip ?_ | (first | refine aExit ?_ | refine aRet ?_); try simp only [slx, ↓reduceIte, Nat.reduceEqDiff, reduceCtorEq] | (first | refine aReg ?_ | refine aDrE ?_); simp -implicitDefEqProofs only [forall_eq, ↓slp, slb, ↓reduceIte, reduceCtorEq, jA, jB, jC, jD, jE, jF, jG, jH, jI, jJ, jK, tfCeRun9] | refine hX _ _ ?_; clear hX X | clear hX X; refine hX _ _ ?_; clear hX X | clear hX X; clear hX X; refine hX _ _ ?_; clear hX X | intro hlen; unfold maxLen at hlen | apply And.intro; focus (first | omega | assumption | (repeat' apply And.intro) <;> first | omega | assumption)))
  refine aIf ?_; simp -implicitDefEqProofs only [↓slp, slb, ↓reduceIte, reduceCtorEq, jA, jB, jC, jD, jE, jF, jG, jH, jI, jJ, jK]
  (repeat (first | refine aSeq fun X hX => ?_ | refine aBlk ?_ | refine aSkip ?_ | (first | refine aExit ?_ | refine aRet ?_); try simp only [slx, ↓reduceIte, Nat.reduceEqDiff, reduceCtorEq] | (first | refine aReg ?_ | refine aDrE ?_); simp -implicitDefEqProofs only [forall_eq, ↓slp, slb, ↓reduceIte, reduceCtorEq, jA, jB, jC, jD, jE, jF, jG, jH, jI, jJ, jK, tfCeRun9] | refine hX _ _ ?_; clear hX X | clear hX X; refine hX _ _ ?_; clear hX X | clear hX X; clear hX X; refine hX _ _ ?_; clear hX X | intro hlen; unfold maxLen at hlen | apply And.intro; focus (first | omega | assumption | (repeat' apply And.intro) <;> first | omega | assumption)))
def maxZ (x : Int) : Int := if 0 > x then 0 else x
set_option maxHeartbeats 2000000 in
theorem clo_pan (b : RB) (m : M) (how : Nat) (fuel left : Int) (o1 h1 s1 : PV) (hf : m.get b.bf = some [.v (.int .i64 fuel)]) (hl : m.get b.bl = some [.v (.int .i64 left)]) (ho : m.get b.bo = some [o1]) (hh : m.get b.bh = some [h1]) (hs : m.get b.bs = some [s1])
    (hne : b.bo ≠ b.bf ∧ b.bo ≠ b.bl ∧ b.bh ≠ b.bf ∧ b.bh ≠ b.bl ∧ b.bs ≠ b.bf ∧ b.bs ≠ b.bl ∧ b.bo ≠ b.bh ∧ b.bo ≠ b.bs ∧ b.bh ≠ b.bs) :
    DPan Try.prog 34 b.args (faultPV how) m (fun m' => m' = ((m.upd b.bo [.sl .full []]).upd b.bh [.v (.int .u8 how)]).upd b.bs [.v (.int .i64 (IntKind.i64.wrap (maxZ fuel - left)))]) := by
  refine DPan.of (mu := []) ok_mix Try.func34 rfl rfl ⟨rfl, rfl, rfl⟩ (by kernel_rfl) (by decide) (by simp only [RB.args, List.length_cons, List.length_nil, Try.ntmps34]; omega) ?_
  obtain ⟨n1, n2, n3, n4, n5, n6, n7, n8, n9⟩ := hne
  unfold RB.args faultPV
  have hu := Try.underlying88
  obtain ⟨Pf, hPf⟩ : ∃ Pf : M → Prop, ∀ m2, Pf m2 ↔ (m2.get b.bf = some [.v (.int .i64 fuel)] ∧ m2.get b.bl = some [.v (.int .i64 left)]) := ⟨_, fun _ => Iff.rfl⟩
  have g1 : ∀ x : Subtype Pf, x.1.get b.bf = some _ := fun x => ((hPf _).1 x.2).1
  have g2 : ∀ x : Subtype Pf, x.1.get b.bl = some _ := fun x => ((hPf _).1 x.2).2
  (repeat (first | refine aSeq fun X hX => ?_ | refine aBlk ?_ | refine aSkip ?_ | (first | refine aExit ?_ | refine aRet ?_); try simp only [slx, ↓reduceIte, Nat.reduceEqDiff, reduceCtorEq] | (first | refine aReg ?_ | refine aDrE ?_); simp -implicitDefEqProofs only [forall_eq, ↓slp, slb, ↓reduceIte, reduceCtorEq, jA, jB, jC, jD, jE, jF, jG, jH, jI, jJ, jK, tfCeRun9] | refine hX _ _ ?_; clear hX X | clear hX X; refine hX _ _ ?_; clear hX X | clear hX X; clear hX X; refine hX _ _ ?_; clear hX X | intro hlen; unfold maxLen at hlen | apply And.intro; focus (first | omega | assumption | (repeat' apply And.intro) <;> first | omega | assumption)))
  refine aIf ?_; simp -implicitDefEqProofs only [↓slp, slb, ↓reduceIte, reduceCtorEq, jA, jB, jC, jD, jE, jF, jG, jH, jI, jJ, jK]
  (repeat (first | refine aSeq fun X hX => ?_ | refine aBlk ?_ | refine aSkip ?_ | (first | refine aExit ?_ | refine aRet ?_); try simp only [slx, ↓reduceIte, Nat.reduceEqDiff, reduceCtorEq] | (first | refine aReg ?_ | refine aIf ?_); simp -implicitDefEqProofs only [forall_eq, ↓slp, slb, ↓reduceIte, reduceCtorEq, jA, jB, jC, jD, jE, jF, jG, jH, jI, jJ, jK, tfCeRun9, hu] | refine hX _ _ ?_; clear hX X | clear hX X; refine hX _ _ ?_; clear hX X | clear hX X; clear hX X; refine hX _ _ ?_; clear hX X | intro hlen; unfold maxLen at hlen | apply And.intro; focus (first | omega | assumption | (repeat' apply And.intro) <;> first | omega | assumption)))
  refine aDrw (isP Pf) (by kernel_rfl) (isP_of ((hPf _).2 ⟨hf, hl⟩)) ?_
  have gh : ∀ x, (m.upd b.bo x).get b.bh = some [h1] := fun x => (get_upd_ne (Ne.symm n7)).trans hh
  have gs : ∀ x y, ((m.upd b.bo x).upd b.bh y).get b.bs = some [s1] := fun x y => (get_upd_ne (Ne.symm n9)).trans ((get_upd_ne (Ne.symm n8)).trans hs)
  simp -implicitDefEqProofs only [↓slp, slb, ↓reduceIte, reduceCtorEq, jA, jB, jC, jD, jE, jF, jG, jH, jI, jJ, jK, tfCeRun9, isP_all, hf, hl, g1, g2, ho, gh, gs]
  have p1 : Pf (m.upd b.bo [PV.sl .full []]) := (hPf _).2 ⟨(get_upd_ne (Ne.symm n1)).trans hf, (get_upd_ne (Ne.symm n2)).trans hl⟩
  have p2 : Pf ((m.upd b.bo [PV.sl .full []]).upd b.bh [PV.v (.int .u8 how)]) := (hPf _).2 ⟨(get_upd_ne (Ne.symm n3)).trans ((hPf _).1 p1).1, (get_upd_ne (Ne.symm n4)).trans ((hPf _).1 p1).2⟩
  have p3 : Pf (((m.upd b.bo [PV.sl .full []]).upd b.bh [PV.v (.int .u8 how)]).upd b.bs [.v (.int .i64 (IntKind.i64.wrap (maxZ fuel - left)))]) := (hPf _).2 ⟨(get_upd_ne (Ne.symm n5)).trans ((hPf _).1 p2).1, (get_upd_ne (Ne.symm n6)).trans ((hPf _).1 p2).2⟩
  exact ⟨isP_of p1, isP_of p2, isP_of p3, rfl⟩
end Go.Proofs.Ytepjjgnkhcjpcaa

/-
  The machine's Run.
-/
set_option linter.unusedVariables false
set_option linter.unusedSimpArgs false
namespace Go.Proofs.Ytepjjgnkhcjpcaa
open Nat renaming reduceEqDiff → jA, reduceAdd → jB, reduceMul → jC, reduceLT → jD, reduceLeDiff → jE, reduceBEq → jF, reduceBNe → jG
open Int renaming reduceLE → jH, reduceLT → jI, reduceToNat → jJ, reduceEq → jK
open Go
-- EXX: CS.settle_pv, CS.pure_pv, CS.cells_pv, CFn.cells_pv, CFn.cs, faultPV
set_option maxRecDepth 20000
-- TNAMES: int; uint8; int32; string; bool; *int; clite.Func; clite.frame; *clite.frame; clite.fault; clite.Machine; *clite.Machine; clite.Prog; []bool; []int32; []clite.Struct; []clite.Func; clite.Expr; []clite.Expr; clite.Stmt; []clite.Stmt; []string; map[string]int32
set_option linter.defProp false
def tfCeRunA := And.intro @tfA (And.intro @Ex.settle_pv (And.intro @Ex.pure_pv (And.intro @Ex.cells_pv (And.intro @Ex.cs.eq_1 (And.intro @On.pv.eq_1 (And.intro @Ty.pv.eq_1 (And.intro @Va.settle_pv (And.intro @Va.pure_pv (And.intro @Va.cells_pv (And.intro @Va.cs.eq_1 (And.intro @CS.settle_pv (And.intro @CS.pure_pv (And.intro @CS.cells_pv (And.intro @CFn.cells_pv (And.intro @CFn.cs.eq_1 @faultPV.eq_1)))))))))))))))

theorem DRet.mono {P : Program} {h : FuncId} {args : List PV} {m : M} {Q Q' : M → Prop} (hd : DRet P h args m Q) (hq : ∀ m', Q m' → Q' m') : DRet P h args m Q' := fun G w vs a b c => (hd G w vs a b c).mono (by rintro e u w' ⟨h1, h2, m', G', h3, h4, h5⟩; exact ⟨h1, h2, m', G', hq _ h3, h4, h5⟩)
theorem DPan.mono {P : Program} {h : FuncId} {args : List PV} {v : PV} {m : M} {Q Q' : M → Prop} (hd : DPan P h args v m Q) (hq : ∀ m', Q m' → Q' m') : DPan P h args v m Q' := fun G w vs y a b c d => (hd G w vs y a b c d).mono (by rintro e u w' ⟨h1, h2, m', G', h3, h4, h5⟩; exact ⟨h1, h2, m', G', hq _ h3, h4, h5⟩)
/-- A machine: its boxes, its memory. -/
structure MS (mid memid tid : Nat) (L : List Sr) (fns : List CFn) (mem : List Int) (tch : List Bool) (m : M) : Prop where
  gmid : m.get mid = some [.sl .no (L.map Sr.pv), .sl .no (fns.map CFn.pv), .bs memid 0 mem.length, .bs tid 0 mem.length]
  gmem : m.get memid = some (memB mem)
  gtch : m.get tid = some (tchB tch)
  tlen : tch.length = mem.length
  mlen : mem.length ≤ 1048576
  m32 : ∀ x ∈ mem, R32 x
  ne : mid ≠ memid ∧ mid ≠ tid ∧ memid ≠ tid
def CRn.cm {α : Type} : CRn α → CM
  | .ok _ m => m
  | .bad _ m => m
/-- What Run hands back. -/
def runV (F : Int) : CRn (List Int) → PV
  | .ok ys s => .tp [.sl .no (ys.map pJ), .v (.int .u8 0), .v (.int .i64 (F - s.left))]
  | .bad how s => .tp [.sl .no [], .v (.int .u8 how), .v (.int .i64 (F - s.left))]
def runC (L : List Sr) (fns : List CFn) (name : Str) (base : Int) (xs : List Int) (fuel : Int) (mem : List Int) (tch : List Bool) : CRn (List Int) := mcallC unN binN L fns fns.length name base xs ⟨mem, tch, (maxZ fuel).toNat⟩
theorem maxZ_nn (x : Int) : 0 ≤ maxZ x := by unfold maxZ; split <;> omega
theorem maxZ_lt {x : Int} (h : x < 2 ^ 62) : maxZ x < 2 ^ 62 := by unfold maxZ; split <;> omega
theorem ChgT.updO {ids : List Nat} {m mm : M} {k : Nat} (h : ChgT ids m mm) (hk : m.nb ≤ k) (c : List PV) : ChgT ids m (mm.upd k c) :=
  ⟨by rw [upd_nb]; exact h.nb, h.nt, h.toks, fun j hj hi => (get_upd_ne (by omega)).trans (h.get j hj hi)⟩
theorem ChgT.chgO {ids ids' : List Nat} {m m1 m2 : M} (h : ChgT ids m m1) (h2 : Chg ids' m1 m2) (hs : ∀ k, k < m.nb → k ∈ ids' → k ∈ ids) : ChgT ids m m2 :=
  ⟨by rw [h2.nb]; exact h.nb, by unfold M.nt; rw [h2.toks]; exact h.nt, by rw [h2.toks]; exact h.toks, fun k hk hi => (h2.get k fun h' => hi (hs k hk h')).trans (h.get k hk hi)⟩
theorem RS.updO {p : RP} {L : List Sr} {fns : List CFn} {s : CM} {m : M} {k : Nat} (h : RS p L fns s m) (n1 : p.mid ≠ k) (n2 : p.memid ≠ k) (n3 : p.tid ≠ k) (n4 : p.lid ≠ k) (c : List PV) : RS p L fns s (m.upd k c) :=
  h.of (get_upd_ne n1) (get_upd_ne n2) (get_upd_ne n3) (get_upd_ne n4)
set_option maxHeartbeats 8000000 in
theorem runM_any {mid memid tid : Nat} {L : List Sr} {fns : List CFn} {mem : List Int} {tch : List Bool} {m : M} (h : MS mid memid tid L fns mem tch m) (hL : L.length ≤ 1000000) (hF : ∀ s ∈ L, s.fields.length ≤ 1000000) (hG : ∀ f ∈ fns, f.good) (hfl : fns.length ≤ 1000000)
    (o : Own) (name : Str) (base : Int) (xs : List Int) (fuel : Int) (hfuel : fuel < 2 ^ 62) (hx32 : ∀ x ∈ xs, R32 x) (r : CRn (List Int)) (hr : runC L fns name base xs fuel mem tch = r) :
    ACalls Try.prog 18 [.bp mid 0, .v (.string name), .v (.int .i64 base), .sl o (xs.map pJ), .v (.int .i64 fuel)] m (fun v m' => v = runV (maxZ fuel) r ∧ MS mid memid tid L fns r.cm.mem r.cm.tch m' ∧ Chg [memid, tid] m m') := by
  refine ACalls.leaves ?_
  obtain ⟨Xf, hXf⟩ : ∃ Xf : F → M → Prop, ∀ f1 m1, Xf f1 m1 = ((f1 0 = .bp mid 0 ∧ f1 1 = .v (.string name) ∧ f1 2 = .v (.int .i64 base) ∧ f1 3 = .sl o (xs.map pJ) ∧ f1 9 = .bp m.nb 0 ∧ f1 10 = .bp (m.nb + 1) 0 ∧ f1 11 = .bp (m.nb + 2) 0 ∧ f1 12 = .bp (m.nb + 3) 0 ∧ f1 13 = .bp (m.nb + 4) 0) ∧
    m1 = m.ext [some [.v (.int .i64 fuel)], some [.sl .full []], some [.v (.int .u8 0)], some [.v (.int .i64 0)], some [.v (.int .i64 (maxZ fuel))]]) := ⟨_, fun _ _ => rfl⟩
  refine ACalls.enterDL (mu := [9, 10, 11, 12, 13]) (l := [_, _, _]) (kps := [10, 11, 12]) ok_mix Try.func18 rfl (by kernel_rfl) (by kernel_rfl) ⟨rfl, rfl, rfl⟩ ⟨rfl, rfl, rfl, rfl, rfl⟩ ?_ (fun kv => by rw [bd_kv _ _ kv (fun _ => undef)]; kernel_rfl) ⟨by decide, by decide⟩ (by simp only [List.length_cons, List.length_nil, Try.ntmps18]; omega) Xf ?_ ?_
  · intro A hA
    simp only [List.mem_cons, List.not_mem_nil, or_false] at hA
    rcases hA with rfl | rfl | rfl <;> kernel_rfl
  · have hz : (if 0 > fuel then 0 else fuel) = maxZ fuel := rfl
    unfold aPre
    (repeat (first | refine aSeq fun X hX => ?_ | refine aBlk ?_ | refine aSkip ?_ | (first | refine aExit ?_ | refine aRet ?_); try simp only [slx, ↓reduceIte, Nat.reduceEqDiff, reduceCtorEq] | (first | refine aReg ?_ | refine aDrE ?_); simp -implicitDefEqProofs only [forall_eq, ↓slp, slb, ↓reduceIte, reduceCtorEq, jA, jB, jC, jD, jE, jF, jG, jH, jI, jJ, jK, tfCeRunA] | refine hX _ _ ?_; clear hX X | clear hX X; refine hX _ _ ?_; clear hX X | clear hX X; clear hX X; refine hX _ _ ?_; clear hX X | intro hlen; unfold maxLen at hlen | apply And.intro; focus (first | omega | assumption | (repeat' apply And.intro) <;> first | omega | assumption)))
    refine aIf ?_; simp -implicitDefEqProofs only [↓slp, slb, ↓reduceIte, reduceCtorEq, jA, jB, jC, jD, jE, jF, jG, jH, jI, jJ, jK]
    (repeat (first | refine aSeq fun X hX => ?_ | refine aBlk ?_ | refine aSkip ?_ | (first | refine aExit ?_ | refine aRet ?_); try simp only [slx, ↓reduceIte, Nat.reduceEqDiff, reduceCtorEq] | (first | refine aReg ?_ | refine aDrE ?_); simp -implicitDefEqProofs only [forall_eq, ↓slp, slb, ↓reduceIte, reduceCtorEq, jA, jB, jC, jD, jE, jF, jG, jH, jI, jJ, jK, tfCeRunA] | refine hX _ _ ?_; clear hX X | clear hX X; refine hX _ _ ?_; clear hX X | clear hX X; clear hX X; refine hX _ _ ?_; clear hX X | intro hlen; unfold maxLen at hlen | apply And.intro; focus (first | omega | assumption | (repeat' apply And.intro) <;> first | omega | assumption)))
    refine ⟨rfl, ?_⟩
    (repeat (first | refine aSeq fun X hX => ?_ | refine aBlk ?_ | refine aSkip ?_ | (first | refine aExit ?_ | refine aRet ?_); try simp only [slx, ↓reduceIte, Nat.reduceEqDiff, reduceCtorEq] | (first | refine aReg ?_ | refine aDrE ?_); simp -implicitDefEqProofs only [forall_eq, ↓slp, slb, ↓reduceIte, reduceCtorEq, jA, jB, jC, jD, jE, jF, jG, jH, jI, jJ, jK, tfCeRunA, hz] | refine hX _ _ ?_; clear hX X | clear hX X; refine hX _ _ ?_; clear hX X | clear hX X; clear hX X; refine hX _ _ ?_; clear hX X | intro hlen; unfold maxLen at hlen | apply And.intro; focus (first | omega | assumption | (repeat' apply And.intro) <;> first | omega | assumption)))
    show Xf _ _
    rw [hXf]
    exact ⟨⟨rfl, rfl, rfl, rfl, rfl, rfl, rfl, rfl, rfl⟩, rfl⟩
  · intro f1 m1 hx
    rw [hXf] at hx
    obtain ⟨⟨f0, f1', f2, f3, f9, f10, f11, f12, f13⟩, rfl⟩ := hx
    have bmid := get_nb h.gmid
    have bmem := get_nb h.gmem
    have btch := get_nb h.gtch
    obtain ⟨m1, hm1⟩ : ∃ m1, m.ext [some [.v (.int .i64 fuel)], some [.sl .full []], some [.v (.int .u8 0)], some [.v (.int .i64 0)], some [.v (.int .i64 (maxZ fuel))]] = m1 := ⟨_, rfl⟩
    have gf : m1.get m.nb = some [.v (.int .i64 fuel)] := by rw [← hm1]; exact ext_get (i := 0) rfl
    have go : m1.get (m.nb + 1) = some [.sl .full []] := by rw [← hm1]; exact ext_get (i := 1) rfl
    have gh : m1.get (m.nb + 2) = some [.v (.int .u8 0)] := by rw [← hm1]; exact ext_get (i := 2) rfl
    have gs : m1.get (m.nb + 3) = some [.v (.int .i64 0)] := by rw [← hm1]; exact ext_get (i := 3) rfl
    have gl : m1.get (m.nb + 4) = some [.v (.int .i64 (maxZ fuel))] := by rw [← hm1]; exact ext_get (i := 4) rfl
    have hT1 : ChgT [memid, tid] m m1 := by rw [← hm1]; exact .ext _ _ _
    have hnn := maxZ_nn fuel
    have hlt := maxZ_lt hfuel
    have hmz : ((maxZ fuel).toNat : Int) = maxZ fuel := by omega
    obtain ⟨p, hp⟩ : ∃ p : RP, p = ⟨mid, memid, tid, m.nb + 4⟩ := ⟨_, rfl⟩
    have hpi : p.ids = [memid, tid, m.nb + 4] := by rw [hp]; rfl
    have hpok : p.ok := by
      subst hp
      exact ⟨h.ne.1, h.ne.2.1, by show mid ≠ m.nb + 4; omega, h.ne.2.2, by show memid ≠ m.nb + 4; omega, by show tid ≠ m.nb + 4; omega⟩
    have hrs1 : RS p L fns ⟨mem, tch, (maxZ fuel).toNat⟩ m1 := by
      subst hp
      rw [← hm1]
      refine ⟨(ext_old' bmid).trans h.gmid, (ext_old' bmem).trans h.gmem, (ext_old' btch).trans h.gtch, ?_, h.tlen, h.mlen, by show (maxZ fuel).toNat < _; omega, h.m32⟩
      rw [hm1, gl]
      show _ = some [PV.v (.int .i64 ((maxZ fuel).toNat : Int))]
      rw [hmz]
    rw [hm1]
    clear hm1
    have hargs : (#[Operand.tmp 9, Operand.tmp 13, Operand.tmp 10, Operand.tmp 11, Operand.tmp 12] : Array Operand).toList.map (ev f1) = RB.args ⟨m.nb, m.nb + 4, m.nb + 1, m.nb + 2, m.nb + 3⟩ := by
      simp only [List.map_cons, List.map_nil, ev_tmp, f9, f10, f11, f12, f13, RB.args]
    have k10 : (F.only [10, 11, 12] f1) 10 = .bp (m.nb + 1) 0 := by unfold F.only; rw [if_pos (by simp)]; exact f10
    have k11 : (F.only [10, 11, 12] f1) 11 = .bp (m.nb + 2) 0 := by unfold F.only; rw [if_pos (by simp)]; exact f11
    have k12 : (F.only [10, 11, 12] f1) 12 = .bp (m.nb + 3) 0 := by unfold F.only; rw [if_pos (by simp)]; exact f12
    have hfin : ∀ (m3 : M) (s' : CM) (v : PV) {V : PV} {me : List Int} {tc : List Bool}, RS p L fns s' m3 → ChgT [memid, tid] m m3 → v.settle.pure = true → (v.settle = V ∧ (me, tc) = (s'.mem, s'.tch)) → ∃ v' m', Leave m m3 v v' m' ∧ v' = V ∧ MS mid memid tid L fns me tc m' ∧ Chg [memid, tid] m m' := by
      intro m3 s' v V me tc hrs hT hv hV
      obtain ⟨hV, hmt⟩ := hV
      cases hmt
      subst hp
      refine leave_T hT (fun id hid c hc => ?_) hv ⟨hV, ⟨(cut_old bmid).trans hrs.mid, (cut_old bmem).trans hrs.mem, (cut_old btch).trans hrs.tch, hrs.tlen, hrs.mlen, hrs.m32, h.ne⟩, hT.cut⟩
      exact hrs.pure id (by show id ∈ [memid, tid, m.nb + 4]; simp at hid ⊢; omega) c hc
    refine ⟨fun m2 => ∃ ys s', r = .ok ys s' ∧ RS p L fns s' m2 ∧ ChgT [memid, tid] m m2 ∧ m2.get (m.nb + 1) = some [.sl .no (ys.map pJ)] ∧ m2.get (m.nb + 2) = some [.v (.int .u8 0)] ∧ m2.get (m.nb + 3) = some [.v (.int .i64 (maxZ fuel - s'.left))],
      fun v m2 => ∃ how s', r = .bad how s' ∧ v = faultPV how ∧ RS p L fns s' m2 ∧ Chg p.ids m1 m2, ?_, ?_, ?_⟩
    · have hpm : p.mid = mid := by rw [hp]
      have hpl : p.lid = m.nb + 4 := by rw [hp]
      have gm1 := hrs1.mid
      rw [hpm] at gm1
      have hM := mcall_all fns.length hfl p L fns ⟨mem, tch, (maxZ fuel).toNat⟩ m1 o name base xs hpok hL hF hG hrs1 hx32
      rw [hpm, hpl] at hM
      (repeat (first | refine aSeq fun X hX => ?_ | refine aBlk ?_ | refine aSkip ?_ | (first | refine aExit ?_ | refine aRet ?_); try simp only [slx, ↓reduceIte, Nat.reduceEqDiff, reduceCtorEq] | (first | refine aReg ?_ | refine aDrE ?_); simp -implicitDefEqProofs only [forall_eq, ↓slp, slb, ↓reduceIte, reduceCtorEq, jA, jB, jC, jD, jE, jF, jG, jH, jI, jJ, jK, tfCeRunA, f0, f1', f2, f3, f9, f10, f11, f12, f13, gm1] | refine hX _ _ ?_; clear hX X | clear hX X; refine hX _ _ ?_; clear hX X | clear hX X; clear hX X; refine hX _ _ ?_; clear hX X | intro hlen; unfold maxLen at hlen | apply And.intro; focus (first | omega | assumption | (repeat' apply And.intro) <;> first | omega | assumption)))
      refine callP hM ?_ ?_
      · rintro v m' ⟨how, s', he, rfl, hrs, hc⟩
        exact ⟨how, s', hr.symm.trans he, rfl, hrs, hc⟩
      rintro v m2 ⟨ys, s2, he, rfl, hy32, hrs2, hc2⟩
      have he2 := hr.symm.trans he
      rw [hpi] at hc2
      have kf : m2.get m.nb = some [.v (.int .i64 fuel)] := (hc2.get _ (by simp; omega)).trans gf
      have ko : m2.get (m.nb + 1) = some [.sl .full []] := (hc2.get _ (by simp; omega)).trans go
      have kh : m2.get (m.nb + 2) = some [.v (.int .u8 0)] := (hc2.get _ (by simp; omega)).trans gh
      have ks : m2.get (m.nb + 3) = some [.v (.int .i64 0)] := (hc2.get _ (by simp; omega)).trans gs
      have kl : m2.get (m.nb + 4) = some [.v (.int .i64 s2.left)] := by have := hrs2.lid; rwa [hpl] at this
      have h62 := hrs2.l62
      have hsub : IntKind.i64.wrap (maxZ fuel - s2.left) = maxZ fuel - s2.left := wrap64 (by omega)
      have hz : (if 0 > fuel then 0 else fuel) = maxZ fuel := rfl
      simp -implicitDefEqProofs only [↓slp, slb, ↓reduceIte, reduceCtorEq, jA, jB, jC, jD, jE, jF, jG, jH, jI, jJ, jK, tfCeRunA, f0, f1', f2, f3, f9, f10, f11, f12, f13, ko]
      (repeat (first | refine aSeq fun X hX => ?_ | refine aBlk ?_ | refine aSkip ?_ | (first | refine aExit ?_ | refine aRet ?_); try simp only [slx, ↓reduceIte, Nat.reduceEqDiff, reduceCtorEq] | (refine hX _ _ ?_; clear hX X) | (clear hX X; refine hX _ _ ?_; clear hX X)))
      have hUR : ∀ (mm : M) (j : Nat) (c : List PV), 1 ≤ j → j ≤ 3 → RS p L fns s2 mm → RS p L fns s2 (mm.upd (m.nb + j) c) := fun mm j c h1 h3 hh => by
        refine hh.updO ?_ ?_ ?_ ?_ c
        · rw [hpm]; omega
        · rw [hp]; show memid ≠ _; omega
        · rw [hp]; show tid ≠ _; omega
        · rw [hpl]; omega
      have hrs3 := hUR _ 1 [PV.sl .no (ys.map pJ)] (by omega) (by omega) hrs2
      have hT2 : ChgT [memid, tid] m m2 := hT1.chgO hc2 (fun k hk hi => by simp at hi ⊢; omega)
      have hT3 := hT2.updO (k := m.nb + 1) (by omega) [PV.sl .no (ys.map pJ)]
      have jf : (m2.upd (m.nb + 1) [PV.sl .no (ys.map pJ)]).get m.nb = some [.v (.int .i64 fuel)] := (get_upd_ne (by omega)).trans kf
      have jo : (m2.upd (m.nb + 1) [PV.sl .no (ys.map pJ)]).get (m.nb + 1) = some [.sl .no (ys.map pJ)] := get_upd_eq ko
      have jh : (m2.upd (m.nb + 1) [PV.sl .no (ys.map pJ)]).get (m.nb + 2) = some [.v (.int .u8 0)] := (get_upd_ne (by omega)).trans kh
      have js : (m2.upd (m.nb + 1) [PV.sl .no (ys.map pJ)]).get (m.nb + 3) = some [.v (.int .i64 0)] := (get_upd_ne (by omega)).trans ks
      have jl : (m2.upd (m.nb + 1) [PV.sl .no (ys.map pJ)]).get (m.nb + 4) = some [.v (.int .i64 s2.left)] := (get_upd_ne (by omega)).trans kl
      generalize m2.upd (m.nb + 1) [PV.sl .no (ys.map pJ)] = m3 at *
      obtain ⟨Pf, hPf⟩ : ∃ Pf : M → Prop, ∀ m4, Pf m4 ↔ (m4.get m.nb = some [.v (.int .i64 fuel)] ∧ m4.get (m.nb + 4) = some [.v (.int .i64 s2.left)] ∧ m4.get (m.nb + 1) = some [.sl .no (ys.map pJ)]) := ⟨_, fun _ => Iff.rfl⟩
      have q1 : ∀ x : Subtype Pf, x.1.get m.nb = some _ := fun x => ((hPf _).1 x.2).1
      have q2 : ∀ x : Subtype Pf, x.1.get (m.nb + 4) = some _ := fun x => ((hPf _).1 x.2).2.1
      have q3 : ∀ x : Subtype Pf, x.1.get (m.nb + 1) = some _ := fun x => ((hPf _).1 x.2).2.2
      have jh2 : ∀ c, (m3.upd (m.nb + 1) c).get (m.nb + 2) = some [.v (.int .u8 0)] := fun c => (get_upd_ne (by omega)).trans jh
      have js2 : ∀ c c', ((m3.upd (m.nb + 1) c).upd (m.nb + 2) c').get (m.nb + 3) = some [.v (.int .i64 0)] := fun c c' => (get_upd_ne (by omega)).trans ((get_upd_ne (by omega)).trans js)
      refine aDrw (isP Pf) (by kernel_rfl) (isP_of ((hPf _).2 ⟨jf, jl, jo⟩)) ?_
      simp -implicitDefEqProofs only [↓slp, slb, ↓reduceIte, reduceCtorEq, jA, jB, jC, jD, jE, jF, jG, jH, jI, jJ, jK, tfCeRunA, isP_all, f9, f10, f11, f12, f13, jf, jl, jo, q1, q2, q3, jh2, js2, hz, hsub]
      have hrs4 := hUR _ 1 [PV.sl .no (ys.map pJ)] (by omega) (by omega) hrs3
      have hrs5 := hUR _ 2 [PV.v (.int .u8 0)] (by omega) (by omega) hrs4
      have hrs6 := hUR _ 3 [PV.v (.int .i64 (maxZ fuel - s2.left))] (by omega) (by omega) hrs5
      have hT6 := ((hT3.updO (k := m.nb + 1) (by omega) [PV.sl .no (ys.map pJ)]).updO (k := m.nb + 2) (by omega) [PV.v (.int .u8 0)]).updO (k := m.nb + 3) (by omega) [PV.v (.int .i64 (maxZ fuel - s2.left))]
      have x1 : ∀ {k : Nat} {w : List PV} (c1 c2 c3 : List PV), k ≠ m.nb + 1 → k ≠ m.nb + 2 → k ≠ m.nb + 3 → m3.get k = some w → (((m3.upd (m.nb + 1) c1).upd (m.nb + 2) c2).upd (m.nb + 3) c3).get k = some w := fun c1 c2 c3 e1 e2 e3 hh => (get_upd_ne e3).trans ((get_upd_ne e2).trans ((get_upd_ne e1).trans hh))
      have y1 : (m3.upd (m.nb + 1) [PV.sl .no (ys.map pJ)]).get (m.nb + 1) = some [PV.sl .no (ys.map pJ)] := get_upd_eq jo
      have y2 : ((m3.upd (m.nb + 1) [PV.sl .no (ys.map pJ)]).upd (m.nb + 2) [PV.v (.int .u8 0)]).get (m.nb + 1) = some [PV.sl .no (ys.map pJ)] := (get_upd_ne (by omega)).trans y1
      have y3 : (((m3.upd (m.nb + 1) [PV.sl .no (ys.map pJ)]).upd (m.nb + 2) [PV.v (.int .u8 0)]).upd (m.nb + 3) [PV.v (.int .i64 (maxZ fuel - s2.left))]).get (m.nb + 1) = some [PV.sl .no (ys.map pJ)] := (get_upd_ne (by omega)).trans y2
      have z2 : ((m3.upd (m.nb + 1) [PV.sl .no (ys.map pJ)]).upd (m.nb + 2) [PV.v (.int .u8 0)]).get (m.nb + 2) = some [PV.v (.int .u8 0)] := get_upd_eq (jh2 _)
      have z3 : (((m3.upd (m.nb + 1) [PV.sl .no (ys.map pJ)]).upd (m.nb + 2) [PV.v (.int .u8 0)]).upd (m.nb + 3) [PV.v (.int .i64 (maxZ fuel - s2.left))]).get (m.nb + 2) = some [PV.v (.int .u8 0)] := (get_upd_ne (by omega)).trans z2
      have u3 : (((m3.upd (m.nb + 1) [PV.sl .no (ys.map pJ)]).upd (m.nb + 2) [PV.v (.int .u8 0)]).upd (m.nb + 3) [PV.v (.int .i64 (maxZ fuel - s2.left))]).get (m.nb + 3) = some [PV.v (.int .i64 (maxZ fuel - s2.left))] := get_upd_eq (js2 _ _)
      refine ⟨isP_of ((hPf _).2 ⟨(get_upd_ne (by omega)).trans jf, (get_upd_ne (by omega)).trans jl, y1⟩), isP_of ((hPf _).2 ⟨(get_upd_ne (by omega)).trans ((get_upd_ne (by omega)).trans jf), (get_upd_ne (by omega)).trans ((get_upd_ne (by omega)).trans jl), y2⟩), isP_of ((hPf _).2 ⟨x1 _ _ _ (by omega) (by omega) (by omega) jf, x1 _ _ _ (by omega) (by omega) (by omega) jl, y3⟩), ?_⟩
      (repeat (first | refine aSeq fun X hX => ?_ | refine aBlk ?_ | refine aSkip ?_ | (first | refine aExit ?_ | refine aRet ?_); try simp only [slx, ↓reduceIte, Nat.reduceEqDiff, reduceCtorEq] | (refine hX _ _ ?_; clear hX X) | (clear hX X; refine hX _ _ ?_; clear hX X)))
      exact ⟨.inr trivial, ys, s2, he2, hrs6, hT6, y3, z3, u3⟩
    · rintro m2 ⟨ys, s', rfl, hrs, hT, g1, g2, g3⟩
      rw [hargs]
      refine (clo_ret _ m2).mono ?_
      rintro m3 rfl
      simp only [Try.results18, aRes_n, aRes_t, aRes_c]
      simp -implicitDefEqProofs only [↓slp, slb, ↓reduceIte, reduceCtorEq, jA, jB, jC, jD, jE, jF, jG, jH, jI, jJ, jK, tfCeRunA, k10, k11, k12, g1, g2, g3]
      exact hfin m3 s' _ hrs hT rfl ⟨rfl, rfl⟩
    · rintro v m2 ⟨how, s', rfl, rfl, hrs, hc⟩
      rw [hargs]
      rw [hpi] at hc
      have kf : m2.get m.nb = some [.v (.int .i64 fuel)] := (hc.get _ (by simp; omega)).trans gf
      have ko : m2.get (m.nb + 1) = some [.sl .full []] := (hc.get _ (by simp; omega)).trans go
      have kh : m2.get (m.nb + 2) = some [.v (.int .u8 0)] := (hc.get _ (by simp; omega)).trans gh
      have ks : m2.get (m.nb + 3) = some [.v (.int .i64 0)] := (hc.get _ (by simp; omega)).trans gs
      have kl : m2.get (m.nb + 4) = some [.v (.int .i64 s'.left)] := by have := hrs.lid; rwa [hp] at this
      refine (clo_pan ⟨m.nb, m.nb + 4, m.nb + 1, m.nb + 2, m.nb + 3⟩ m2 how fuel s'.left _ _ _ kf kl ko kh ks ⟨by show m.nb + 1 ≠ m.nb; omega, by show m.nb + 1 ≠ m.nb + 4; omega, by show m.nb + 2 ≠ m.nb; omega, by show m.nb + 2 ≠ m.nb + 4; omega, by show m.nb + 3 ≠ m.nb; omega, by show m.nb + 3 ≠ m.nb + 4; omega, by show m.nb + 1 ≠ m.nb + 2; omega, by show m.nb + 1 ≠ m.nb + 3; omega, by show m.nb + 2 ≠ m.nb + 3; omega⟩).mono ?_
      rintro m3 hm3
      have h62 := hrs.l62
      have hsub : IntKind.i64.wrap (maxZ fuel - s'.left) = maxZ fuel - s'.left := wrap64 (by omega)
      rw [hsub] at hm3
      simp only [Try.results18, aRes_n, aRes_t, aRes_c]
      have hUR : ∀ (mm : M) (j : Nat) (c : List PV), 1 ≤ j → j ≤ 3 → RS p L fns s' mm → RS p L fns s' (mm.upd (m.nb + j) c) := fun mm j c h1 h3 hh => by
        refine hh.updO ?_ ?_ ?_ ?_ c
        · rw [hp]; show mid ≠ _; omega
        · rw [hp]; show memid ≠ _; omega
        · rw [hp]; show tid ≠ _; omega
        · rw [hp]; show m.nb + 4 ≠ _; omega
      have hrs3 : RS p L fns s' m3 := by rw [hm3]; exact hUR _ 3 _ (by omega) (by omega) (hUR _ 2 _ (by omega) (by omega) (hUR _ 1 _ (by omega) (by omega) hrs))
      have hT2 : ChgT [memid, tid] m m2 := hT1.chgO hc (fun k hk hi => by simp at hi ⊢; omega)
      have hT3 : ChgT [memid, tid] m m3 := by rw [hm3]; exact ((hT2.updO (k := m.nb + 1) (by omega) _).updO (k := m.nb + 2) (by omega) _).updO (k := m.nb + 3) (by omega) _
      have g1 : m3.get (m.nb + 1) = some [.sl .full []] := by rw [hm3]; exact (get_upd_ne (by show m.nb + 1 ≠ m.nb + 3; omega)).trans ((get_upd_ne (by show m.nb + 1 ≠ m.nb + 2; omega)).trans (get_upd_eq ko))
      have g2 : m3.get (m.nb + 2) = some [.v (.int .u8 how)] := by rw [hm3]; exact (get_upd_ne (by show m.nb + 2 ≠ m.nb + 3; omega)).trans (get_upd_eq ((get_upd_ne (by show m.nb + 2 ≠ m.nb + 1; omega)).trans kh))
      have g3 : m3.get (m.nb + 3) = some [.v (.int .i64 (maxZ fuel - s'.left))] := by rw [hm3]; exact get_upd_eq ((get_upd_ne (by show m.nb + 3 ≠ m.nb + 2; omega)).trans ((get_upd_ne (by show m.nb + 3 ≠ m.nb + 1; omega)).trans ks))
      simp -implicitDefEqProofs only [↓slp, slb, ↓reduceIte, reduceCtorEq, jA, jB, jC, jD, jE, jF, jG, jH, jI, jJ, jK, tfCeRunA, k10, k11, k12, g1, g2, g3]
      exact hfin m3 s' _ hrs3 hT3 rfl ⟨rfl, rfl⟩
end Go.Proofs.Ytepjjgnkhcjpcaa

/-
  The machine's Cells and Touched.
-/
set_option linter.unusedVariables false
set_option linter.unusedSimpArgs false
namespace Go.Proofs.Ytepjjgnkhcjpcaa
open Nat renaming reduceEqDiff → jA, reduceAdd → jB, reduceMul → jC, reduceLT → jD, reduceLeDiff → jE, reduceBEq → jF, reduceBNe → jG
open Int renaming reduceLE → jH, reduceLT → jI, reduceToNat → jJ, reduceEq → jK
open Go
set_option maxRecDepth 20000
-- TNAMES: int; uint8; int32; string; bool; *int; clite.Machine; *clite.Machine; clite.Prog; []bool; []int32; []clite.Struct; []clite.Func
set_option linter.defProp false
def tfCeRunB := And.intro @tfA (And.intro @Ex.settle_pv (And.intro @Ex.pure_pv (And.intro @Ex.cells_pv (And.intro @Ex.cs.eq_1 (And.intro @On.pv.eq_1 (And.intro @Ty.pv.eq_1 (And.intro @Va.settle_pv (And.intro @Va.pure_pv (And.intro @Va.cells_pv @Va.cs.eq_1)))))))))

theorem isV_mem (l : List Int) : (memB l).all PV.isV = true := by simp [PV.isV]
theorem isV_tch (l : List Bool) : (tchB l).all PV.isV = true := by simp [PV.isV]
theorem leave_fresh {m : M} {v : PV} {s : Nat} {R : PV → M → Prop} (hv : v.settle.pure = true) (hR : R v.settle m) : ∃ v' m', Leave m (m.fresh s) v v' m' ∧ R v' m' :=
  leave_toks0 ((Toks.refl m).use (o := .full) (s := s) (s' := s) .full) hv hR
set_option maxHeartbeats 2000000 in
theorem cloneI_any (id n : Nat) (xs : List PV) (m : M) (hg : m.get id = some xs) (hn : xs.length = n) (hb : n ≤ 1048576) (hv : xs.all PV.isV = true) : ACalls Try.prog 36 [.bs id 0 n] m (fun v m' => v = .sl .no xs ∧ m' = m) := by
  refine ACalls.enter (mu := []) ok_mix Try.func36 rfl (by kernel_rfl) (by kernel_rfl) (by simp only [List.length_cons, List.length_nil, Try.ntmps36]; omega) ?_
  have hlen : ∀ x ∈ xs, x.cells.length = 1 := fun x hx => by
    have := List.all_eq_true.1 hv x hx
    cases x <;> simp [PV.isV] at this
    rfl
  have ht : xs.take n = xs := by rw [← hn]; exact List.take_length
  (repeat (first | refine aSeq fun X hX => ?_ | refine aBlk ?_ | refine aSkip ?_ | (first | refine aExit ?_ | refine aRet ?_); try simp only [slx, ↓reduceIte, Nat.reduceEqDiff, reduceCtorEq] | (first | refine aReg ?_ | refine aDrE ?_ | refine aIf ?_); simp -implicitDefEqProofs only [forall_eq, ↓slp, slb, ↓reduceIte, reduceCtorEq, jA, jB, jC, jD, jE, jF, jG, jH, jI, jJ, jK, tfCeRunB, hg, hn, hv, ht, Nat.zero_add, Nat.le_refl, List.range_zero] | refine hX _ _ ?_; clear hX X | clear hX X; refine hX _ _ ?_; clear hX X | clear hX X; clear hX X; refine hX _ _ ?_; clear hX X | intro hlen; unfold maxLen at hlen | apply And.intro; focus (first | omega | assumption | (repeat' apply And.intro) <;> first | omega | assumption)))
  refine ⟨⟨hlen, by unfold maxLen; omega, by omega⟩, ?_⟩
  (repeat (first | refine aSeq fun X hX => ?_ | refine aBlk ?_ | refine aSkip ?_ | (first | refine aExit ?_ | refine aRet ?_); try simp only [slx, ↓reduceIte, Nat.reduceEqDiff, reduceCtorEq] | (refine hX _ _ ?_; clear hX X) | (clear hX X; refine hX _ _ ?_; clear hX X)))
  simp only [aPost, Try.results36, aRes_n, aRes_t, aRes_c, pack_one, pack_two]
  exact leave_fresh rfl ⟨rfl, rfl⟩
set_option maxHeartbeats 2000000 in
theorem cloneB_any (id n : Nat) (xs : List PV) (m : M) (hg : m.get id = some xs) (hn : xs.length = n) (hb : n ≤ 1048576) (hv : xs.all PV.isV = true) : ACalls Try.prog 43 [.bs id 0 n] m (fun v m' => v = .sl .no xs ∧ m' = m) := by
  refine ACalls.enter (mu := []) ok_mix Try.func43 rfl (by kernel_rfl) (by kernel_rfl) (by simp only [List.length_cons, List.length_nil, Try.ntmps43]; omega) ?_
  have hlen : ∀ x ∈ xs, x.cells.length = 1 := fun x hx => by
    have := List.all_eq_true.1 hv x hx
    cases x <;> simp [PV.isV] at this
    rfl
  have ht : xs.take n = xs := by rw [← hn]; exact List.take_length
  (repeat (first | refine aSeq fun X hX => ?_ | refine aBlk ?_ | refine aSkip ?_ | (first | refine aExit ?_ | refine aRet ?_); try simp only [slx, ↓reduceIte, Nat.reduceEqDiff, reduceCtorEq] | (first | refine aReg ?_ | refine aDrE ?_ | refine aIf ?_); simp -implicitDefEqProofs only [forall_eq, ↓slp, slb, ↓reduceIte, reduceCtorEq, jA, jB, jC, jD, jE, jF, jG, jH, jI, jJ, jK, tfCeRunB, hg, hn, hv, ht, Nat.zero_add, Nat.le_refl, List.range_zero] | refine hX _ _ ?_; clear hX X | clear hX X; refine hX _ _ ?_; clear hX X | clear hX X; clear hX X; refine hX _ _ ?_; clear hX X | intro hlen; unfold maxLen at hlen | apply And.intro; focus (first | omega | assumption | (repeat' apply And.intro) <;> first | omega | assumption)))
  refine ⟨⟨hlen, by unfold maxLen; omega, by omega⟩, ?_⟩
  (repeat (first | refine aSeq fun X hX => ?_ | refine aBlk ?_ | refine aSkip ?_ | (first | refine aExit ?_ | refine aRet ?_); try simp only [slx, ↓reduceIte, Nat.reduceEqDiff, reduceCtorEq] | (refine hX _ _ ?_; clear hX X) | (clear hX X; refine hX _ _ ?_; clear hX X)))
  simp only [aPost, Try.results43, aRes_n, aRes_t, aRes_c, pack_one, pack_two]
  exact leave_fresh rfl ⟨rfl, rfl⟩
set_option maxHeartbeats 2000000 in
theorem cells_any {mid memid tid : Nat} {L : List Sr} {fns : List CFn} {mem : List Int} {tch : List Bool} {m : M} (h : MS mid memid tid L fns mem tch m) : ACalls Try.prog 19 [.bp mid 0] m (fun v m' => v = .sl .no (memB mem) ∧ m' = m) := by
  refine ACalls.enter (mu := []) ok_mix Try.func19 rfl (by kernel_rfl) (by kernel_rfl) (by simp only [List.length_cons, List.length_nil, Try.ntmps19]; omega) ?_
  have gm := h.gmid
  have hb := h.mlen
  have htl := h.tlen
  (repeat (first | refine aSeq fun X hX => ?_ | refine aBlk ?_ | refine aSkip ?_ | (first | refine aExit ?_ | refine aRet ?_); try simp only [slx, ↓reduceIte, Nat.reduceEqDiff, reduceCtorEq] | (first | refine aReg ?_ | refine aDrE ?_ | refine aIf ?_); simp -implicitDefEqProofs only [forall_eq, ↓slp, slb, ↓reduceIte, reduceCtorEq, jA, jB, jC, jD, jE, jF, jG, jH, jI, jJ, jK, tfCeRunB, gm] | refine hX _ _ ?_; clear hX X | clear hX X; refine hX _ _ ?_; clear hX X | clear hX X; clear hX X; refine hX _ _ ?_; clear hX X | intro hlen; unfold maxLen at hlen | apply And.intro; focus (first | omega | assumption | (repeat' apply And.intro) <;> first | omega | assumption)))
  refine callE (cloneI_any memid _ _ _ h.gmem (by simp [htl]) hb (isV_mem _)) ?_
  simp -implicitDefEqProofs only [↓slp, slb, ↓reduceIte, reduceCtorEq, jA, jB, jC, jD, jE, jF, jG, jH, jI, jJ, jK, tfCeRunB]
  (repeat (first | refine aSeq fun X hX => ?_ | refine aBlk ?_ | refine aSkip ?_ | (first | refine aExit ?_ | refine aRet ?_); try simp only [slx, ↓reduceIte, Nat.reduceEqDiff, reduceCtorEq] | (first | refine aReg ?_ | refine aDrE ?_ | refine aIf ?_); simp -implicitDefEqProofs only [forall_eq, ↓slp, slb, ↓reduceIte, reduceCtorEq, jA, jB, jC, jD, jE, jF, jG, jH, jI, jJ, jK, tfCeRunB] | refine hX _ _ ?_; clear hX X | clear hX X; refine hX _ _ ?_; clear hX X | clear hX X; clear hX X; refine hX _ _ ?_; clear hX X | intro hlen; unfold maxLen at hlen | apply And.intro; focus (first | omega | assumption | (repeat' apply And.intro) <;> first | omega | assumption)))
  simp only [aPost, Try.results19, aRes_n, aRes_t, aRes_c, pack_one, pack_two]
  exact leave_same rfl ⟨rfl, rfl⟩
set_option maxHeartbeats 2000000 in
theorem touched_any {mid memid tid : Nat} {L : List Sr} {fns : List CFn} {mem : List Int} {tch : List Bool} {m : M} (h : MS mid memid tid L fns mem tch m) : ACalls Try.prog 26 [.bp mid 0] m (fun v m' => v = .sl .no (tchB tch) ∧ m' = m) := by
  refine ACalls.enter (mu := []) ok_mix Try.func26 rfl (by kernel_rfl) (by kernel_rfl) (by simp only [List.length_cons, List.length_nil, Try.ntmps26]; omega) ?_
  have gm := h.gmid
  have hb := h.mlen
  have htl := h.tlen
  (repeat (first | refine aSeq fun X hX => ?_ | refine aBlk ?_ | refine aSkip ?_ | (first | refine aExit ?_ | refine aRet ?_); try simp only [slx, ↓reduceIte, Nat.reduceEqDiff, reduceCtorEq] | (first | refine aReg ?_ | refine aDrE ?_ | refine aIf ?_); simp -implicitDefEqProofs only [forall_eq, ↓slp, slb, ↓reduceIte, reduceCtorEq, jA, jB, jC, jD, jE, jF, jG, jH, jI, jJ, jK, tfCeRunB, gm] | refine hX _ _ ?_; clear hX X | clear hX X; refine hX _ _ ?_; clear hX X | clear hX X; clear hX X; refine hX _ _ ?_; clear hX X | intro hlen; unfold maxLen at hlen | apply And.intro; focus (first | omega | assumption | (repeat' apply And.intro) <;> first | omega | assumption)))
  refine callE (cloneB_any tid _ _ _ h.gtch (by simp [htl]) hb (isV_tch _)) ?_
  simp -implicitDefEqProofs only [↓slp, slb, ↓reduceIte, reduceCtorEq, jA, jB, jC, jD, jE, jF, jG, jH, jI, jJ, jK, tfCeRunB]
  (repeat (first | refine aSeq fun X hX => ?_ | refine aBlk ?_ | refine aSkip ?_ | (first | refine aExit ?_ | refine aRet ?_); try simp only [slx, ↓reduceIte, Nat.reduceEqDiff, reduceCtorEq] | (first | refine aReg ?_ | refine aDrE ?_ | refine aIf ?_); simp -implicitDefEqProofs only [forall_eq, ↓slp, slb, ↓reduceIte, reduceCtorEq, jA, jB, jC, jD, jE, jF, jG, jH, jI, jJ, jK, tfCeRunB] | refine hX _ _ ?_; clear hX X | clear hX X; refine hX _ _ ?_; clear hX X | clear hX X; clear hX X; refine hX _ _ ?_; clear hX X | intro hlen; unfold maxLen at hlen | apply And.intro; focus (first | omega | assumption | (repeat' apply And.intro) <;> first | omega | assumption)))
  simp only [aPost, Try.results26, aRes_n, aRes_t, aRes_c, pack_one, pack_two]
  exact leave_same rfl ⟨rfl, rfl⟩
end Go.Proofs.Ytepjjgnkhcjpcaa
