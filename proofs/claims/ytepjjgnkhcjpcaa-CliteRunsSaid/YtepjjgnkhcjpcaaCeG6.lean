/-
  Texts that belong together: CeLm4, CeLm5.
-/
import Derived.Test.YtepjjgnkhcjpcaaCeG5
/-
  The law's machine: a call, walked.
-/
set_option linter.unusedVariables false
set_option linter.unusedSimpArgs false
namespace Go.Proofs.Ytepjjgnkhcjpcaa
open Nat renaming reduceEqDiff → jA, reduceAdd → jB, reduceMul → jC, reduceLT → jD, reduceLeDiff → jE, reduceBEq → jF, reduceBNe → jG
open Int renaming reduceLE → jH, reduceLT → jI, reduceToNat → jJ, reduceEq → jK
open Go
-- EXX: CE.settle_pv, CE.pure_pv, CE.cells_pv, CE.cs, CS.cells_pv, lCells
set_option maxRecDepth 20000
-- TNAMES: int; uint8; int32; string; bool; metronomelaw23.machine; *metronomelaw23.machine; [4]int32; [4]bool; []bool; []int32; clite.Expr; []clite.Expr; clite.Stmt; []clite.Stmt; []string
set_option linter.defProp false
def tfCeLm4 := And.intro @tfA (And.intro @Ex.settle_pv (And.intro @Ex.pure_pv (And.intro @Ex.cells_pv (And.intro @Ex.cs.eq_1 (And.intro @On.pv.eq_1 (And.intro @Ty.pv.eq_1 (And.intro @Va.settle_pv (And.intro @Va.pure_pv (And.intro @Va.cells_pv (And.intro @Va.cs.eq_1 (And.intro @CE.settle_pv (And.intro @CE.pure_pv (And.intro @CE.cells_pv (And.intro @CE.cs.eq_1 (And.intro @CS.cells_pv @lCells.eq_1)))))))))))))))

def updN {α : Type} (f : Nat → α) (t : Nat) (x : α) : Nat → α := fun i => if i = t then x else f i
theorem nmV_ne : ∀ t, t < 4 → ∀ u, u < 4 → ((nmV t).toList == (nmV u).toList) = decide (t = u) := by decide +kernel
theorem find_put (k k' : Str) (x : Int) : ∀ v : Env, (v.put k x).find k' = if (k.toList == k'.toList) = true then some x else v.find k'
  | [] => by
    unfold Env.put Env.find
    simp only [List.find?_cons, List.find?_nil]
    cases (k.toList == k'.toList) <;> rfl
  | (a, y) :: v => by
    have ih := find_put k k' x v
    unfold Env.put
    by_cases h : (a.toList == k.toList) = true
    · rw [if_pos h]
      have e : a = k := bytes_tl.1 h
      subst e
      unfold Env.find
      simp only [List.find?_cons]
      cases (a.toList == k'.toList) <;> rfl
    · rw [if_neg h]
      unfold Env.find at ih ⊢
      simp only [List.find?_cons]
      cases h2 : (a.toList == k'.toList) with
      | true =>
        have h3 : (k.toList == k'.toList) = false := by
          cases q : (k.toList == k'.toList) with
          | false => rfl
          | true =>
            exfalso
            apply h
            rw [beq_iff_eq] at h2 q ⊢
            rw [h2, q]
        rw [h3]; rfl
      | false => exact ih
theorem EnvR.put {env : Env} {vs : Nat → Int} {bs : Nat → Bool} (h : EnvR env vs bs) {t : Nat} (ht : t < 4) (x : Int) : EnvR (env.put (nmV t) x) (updN vs t x) (updN bs t true) := by
  intro u hu
  rw [find_put, nmV_ne t ht u hu]
  unfold updN
  by_cases q : t = u
  · subst q; simp
  · rw [if_neg (by simp [q]), h u hu]
    simp [Ne.symm q]
theorem put32 {env : Env} (h : ∀ x ∈ env, R32 x.2) (nm : Str) (x : Int) (hx : R32 x) : ∀ y ∈ env.put nm x, R32 y.2 := by
  induction env with
  | nil => intro y hy; simp [Env.put] at hy; subst hy; exact hx
  | cons a v ih =>
    intro y hy
    obtain ⟨k, z⟩ := a
    unfold Env.put at hy
    split at hy
    · rcases List.mem_cons.1 hy with rfl | hy
      · exact hx
      · exact h y (List.mem_cons_of_mem _ hy)
    · rcases List.mem_cons.1 hy with rfl | hy
      · exact h (k, z) (by simp)
      · exact ih (fun q hq => h q (List.mem_cons_of_mem _ hq)) y hy
/-- What statements leave. -/
def RetL (p : LP) (m : M) (r : CRn Env) (v : PV) (m' : M) : Prop :=
  Chg p.ids m m' ∧ ((∃ env' vs' bs' s', r = .ok env' s' ∧ EnvR env' vs' bs' ∧ (∀ x ∈ env', R32 x.2) ∧ LR p vs' bs' s' 255 m') ∨ (∃ (h : Nat) (s' : CM) (vs' : Nat → Int) (bs' : Nat → Bool), r = .bad h s' ∧ (0 < h ∧ h < 255) ∧ LR p vs' bs' s' h m'))
section
variable {p : LP} {vs : Nat → Int} {bs : Nat → Bool} {s : CM} {m : M}
theorem lstep_ok (hp : p.ok) (h : LR p vs bs s 255 m) (hl : 1 ≤ s.left) : ACalls Try.prog 38 [.bp p.did 0] m (fun v m' => v = .v (.bool true) ∧ Chg p.ids m m' ∧ LR p vs bs { s with left := s.left - 1 } 255 m') := by
  refine ACallsZ.mono (lstep_any hp h) ?_ (fun _ _ h => h.elim)
  rintro v m' ⟨hc, ⟨s', rfl, hs, h'⟩ | ⟨rfl, hs, h'⟩⟩
  · unfold stepC at hs
    rw [if_neg (by omega)] at hs
    cases hs
    exact ⟨rfl, hc, h'⟩
  · unfold stepC at hs
    rw [if_neg (by omega)] at hs
    cases hs
theorem lstep_out (hp : p.ok) (h : LR p vs bs s 255 m) (hl : s.left = 0) : ACalls Try.prog 38 [.bp p.did 0] m (fun v m' => v = .v (.bool false) ∧ Chg p.ids m m' ∧ LR p vs bs s 4 m') := by
  refine ACallsZ.mono (lstep_any hp h) ?_ (fun _ _ h => h.elim)
  rintro v m' ⟨hc, ⟨s', rfl, hs, h'⟩ | ⟨rfl, hs, h'⟩⟩
  · unfold stepC at hs
    rw [if_pos (by omega)] at hs
    cases hs
  · exact ⟨rfl, hc, h'⟩
end
theorem leave_lmT {p : LP} {vs : Nat → Int} {bs : Nat → Bool} {s : CM} {how : Nat} {m mm : M} {v : PV} {R : PV → M → Prop} (h0 : m.nb = mm.nb) (h : LR p vs bs s how mm) (hT : ChgT p.ids m mm) (hv : v.settle.pure = true) (hR : R v.settle (mm.cut m)) : ∃ v' m', Leave m mm v v' m' ∧ R v' m' := by
  have e : (mm.cut m).boxes = mm.boxes := by show mm.boxes.take m.nb = _; rw [h0]; exact List.take_length
  have hb : mm.boxes.take (mm.cut m).nb = (mm.cut m).boxes := by
    have : (mm.cut m).nb = m.nb := by unfold M.nb; rw [e]; exact h0.symm
    rw [this]; rfl
  have ht : mm.toks.take (mm.cut m).nt = (mm.cut m).toks := hT.toks
  refine ⟨_, _, .gen v v.settle (mm.cut m) (.inr rfl) (by rw [show (mm.cut m).nb = mm.nb by unfold M.nb; rw [e], h0]; exact Nat.le_refl _) (Nat.le_refl _) hb ht (fun id c hid => ?_) (pure_withinC _ _ _ hv), hR⟩
  have hg : (mm.cut m).get id = mm.get id := by unfold M.get; rw [e]
  rw [hg] at hid
  by_cases hi : id ∈ p.ids
  · refine .inr ?_
    simp only [LP.ids, List.mem_cons, List.not_mem_nil, or_false] at hi
    have b1 := get_nb h.gm
    have b2 := get_nb h.gt
    have hnb : (mm.cut m).nb = mm.nb := by unfold M.nb; rw [e]
    rcases hi with rfl | rfl | rfl
    · rw [h.gd] at hid
      cases hid
      simp [lCells, PV.withins, PV.within, hnb, b1, b2]
    · rw [h.gm] at hid; cases hid; exact pures_within _ _ _ (pures_mem _)
    · rw [h.gt] at hid; cases hid; exact pures_within _ _ _ (pures_tch _)
  · exact .inl (by rw [← hT.get id (by rw [h0]; exact get_nb hid) hi]; exact hid)
theorem LR.cut {p : LP} {vs : Nat → Int} {bs : Nat → Bool} {s : CM} {how : Nat} {m mm : M} (h0 : m.nb = mm.nb) (h : LR p vs bs s how mm) : LR p vs bs s how (mm.cut m) := by
  have e : (mm.cut m).boxes = mm.boxes := by show mm.boxes.take m.nb = _; rw [h0]; exact List.take_length
  have hg : ∀ id, (mm.cut m).get id = mm.get id := fun id => by unfold M.get; rw [e]
  exact ⟨(hg _).trans h.gd, (hg _).trans h.gm, (hg _).trans h.gt, h.tlen, h.mlen, h.l62, h.m32⟩
theorem LR.toks {p : LP} {vs : Nat → Int} {bs : Nat → Bool} {s : CM} {how : Nat} {m m' : M} (h : LR p vs bs s how m) (hg : ∀ id, m'.get id = m.get id) : LR p vs bs s how m' :=
  ⟨(hg _).trans h.gd, (hg _).trans h.gm, (hg _).trans h.gt, h.tlen, h.mlen, h.l62, h.m32⟩
theorem nmV_k : ∀ t, t < 4 → IntKind.i64.wrap (IntKind.u8.wrap ((((nmV t).data.toList.getD 1 0).toNat : Int) - 97)) = (t : Int) := by decide +kernel
set_option maxHeartbeats 16000000 in
theorem lcall_any (body : List CS) (name part : Str) (e : CE) (thn els : List CS) (args : List CE) (outs : List Str) (hA : ∀ a ∈ args, a.good ∧ a.locs) (hAl : args.length ≤ 1000000) (hO : outs = [] ∨ ∃ t, t < 4 ∧ outs = [nmV t])
    (p : LP) (vs : Nat → Int) (bs : Nat → Bool) (s : CM) (env : Env) (m : M) (hp : p.ok) (h : LR p vs bs s 255 m) (hE : EnvR env vs bs) (h32 : ∀ x ∈ env, R32 x.2) :
    ACalls Try.prog 42 [.bp p.did 0, .ag (CS.mk 4 name part e thn els args outs).cs] m (RetL p m (evCallS body name part args outs env s)) := by
  obtain ⟨EV, hEV⟩ : ∃ EV, evCallS body name part args outs env s = EV := ⟨_, rfl⟩
  rw [hEV]
  have hE1 := hEV.symm
  clear hEV
  unfold CS.cs
  dsimp only [CS.kind, CS.name, CS.part, CS.e, CS.thn, CS.els, CS.args, CS.outs]
  cases c1 : (part.toList == sP.toList) with
  | false =>
    rw [callC_part body name part args outs env s c1] at hE1
    have c1' : (part.toList == (⟨#[112]⟩ : ByteArray).toList) = false := c1
    refine ACalls.enter (mu := []) ok_mix Try.func42 rfl (by kernel_rfl) (by kernel_rfl) (by simp only [List.length_cons, List.length_nil, Try.ntmps42]; omega) ?_
    (repeat (first | refine aSeq fun X hX => ?_ | refine aBlk ?_ | refine aSkip ?_ | (first | refine aExit ?_ | refine aRet ?_); try simp only [slx, ↓reduceIte, Nat.reduceEqDiff, reduceCtorEq] | (first | refine aReg ?_ | refine aDrE ?_ | refine aIf ?_); simp -implicitDefEqProofs only [forall_eq, ↓slp, slb, ↓reduceIte, reduceCtorEq, jA, jB, jC, jD, jE, jF, jG, jH, jI, jJ, jK, tfCeLm4, c1'] | refine hX _ _ ?_; clear hX X | clear hX X; refine hX _ _ ?_; clear hX X | clear hX X; clear hX X; refine hX _ _ ?_; clear hX X | intro hlen; unfold maxLen at hlen | apply And.intro; focus (first | omega | assumption | (repeat' apply And.intro) <;> first | omega | assumption)))
    refine callM (lend_any hp h 2) ?_
    rintro v m2 ⟨rfl, hc2, h2⟩
    simp -implicitDefEqProofs only [↓slp, slb, ↓reduceIte, reduceCtorEq, jA, jB, jC, jD, jE, jF, jG, jH, jI, jJ, jK, tfCeLm4]
    (repeat (first | refine aSeq fun X hX => ?_ | refine aBlk ?_ | refine aSkip ?_ | (first | refine aExit ?_ | refine aRet ?_); try simp only [slx, ↓reduceIte, Nat.reduceEqDiff, reduceCtorEq] | (first | refine aReg ?_ | refine aDrE ?_ | refine aIf ?_); simp -implicitDefEqProofs only [forall_eq, ↓slp, slb, ↓reduceIte, reduceCtorEq, jA, jB, jC, jD, jE, jF, jG, jH, jI, jJ, jK, tfCeLm4] | refine hX _ _ ?_; clear hX X | clear hX X; refine hX _ _ ?_; clear hX X | clear hX X; clear hX X; refine hX _ _ ?_; clear hX X | intro hlen; unfold maxLen at hlen | apply And.intro; focus (first | omega | assumption | (repeat' apply And.intro) <;> first | omega | assumption)))
    simp only [aPost, Try.results42, aRes_n, aRes_t, aRes_c, pack_one, pack_two]
    exact leave_lm h2 hc2 rfl ⟨hc2, .inr ⟨2, s, vs, bs, hE1, by omega, h2⟩⟩
  | true =>
  have hpP : part = sP := bytes_tl.1 c1
  subst hpP
  have c1' : (sP.toList == (⟨#[112]⟩ : ByteArray).toList) = true := c1
  cases c2 : (name.toList == sAdd.toList) with
  | false =>
    rw [callC_name body name args outs env s (.inl c2)] at hE1
    have c2' : (name.toList == (⟨#[97, 100, 100]⟩ : ByteArray).toList) = false := c2
    refine ACalls.enter (mu := []) ok_mix Try.func42 rfl (by kernel_rfl) (by kernel_rfl) (by simp only [List.length_cons, List.length_nil, Try.ntmps42]; omega) ?_
    (repeat (first | refine aSeq fun X hX => ?_ | refine aBlk ?_ | refine aSkip ?_ | (first | refine aExit ?_ | refine aRet ?_); try simp only [slx, ↓reduceIte, Nat.reduceEqDiff, reduceCtorEq] | (first | refine aReg ?_ | refine aDrE ?_ | refine aIf ?_); simp -implicitDefEqProofs only [forall_eq, ↓slp, slb, ↓reduceIte, reduceCtorEq, jA, jB, jC, jD, jE, jF, jG, jH, jI, jJ, jK, tfCeLm4, c1', c2'] | refine hX _ _ ?_; clear hX X | clear hX X; refine hX _ _ ?_; clear hX X | clear hX X; clear hX X; refine hX _ _ ?_; clear hX X | intro hlen; unfold maxLen at hlen | apply And.intro; focus (first | omega | assumption | (repeat' apply And.intro) <;> first | omega | assumption)))
    refine callM (lend_any hp h 1) ?_
    rintro v m2 ⟨rfl, hc2, h2⟩
    simp -implicitDefEqProofs only [↓slp, slb, ↓reduceIte, reduceCtorEq, jA, jB, jC, jD, jE, jF, jG, jH, jI, jJ, jK, tfCeLm4]
    (repeat (first | refine aSeq fun X hX => ?_ | refine aBlk ?_ | refine aSkip ?_ | (first | refine aExit ?_ | refine aRet ?_); try simp only [slx, ↓reduceIte, Nat.reduceEqDiff, reduceCtorEq] | (first | refine aReg ?_ | refine aDrE ?_ | refine aIf ?_); simp -implicitDefEqProofs only [forall_eq, ↓slp, slb, ↓reduceIte, reduceCtorEq, jA, jB, jC, jD, jE, jF, jG, jH, jI, jJ, jK, tfCeLm4] | refine hX _ _ ?_; clear hX X | clear hX X; refine hX _ _ ?_; clear hX X | clear hX X; clear hX X; refine hX _ _ ?_; clear hX X | intro hlen; unfold maxLen at hlen | apply And.intro; focus (first | omega | assumption | (repeat' apply And.intro) <;> first | omega | assumption)))
    simp only [aPost, Try.results42, aRes_n, aRes_t, aRes_c, pack_one, pack_two]
    exact leave_lm h2 hc2 rfl ⟨hc2, .inr ⟨1, s, vs, bs, hE1, by omega, h2⟩⟩
  | true =>
  have hnA : name = sAdd := bytes_tl.1 c2
  subst hnA
  have c2' : (sAdd.toList == (⟨#[97, 100, 100]⟩ : ByteArray).toList) = true := c2
  rcases hO with rfl | ⟨t, ht, rfl⟩
  · rw [callC_name body sAdd args [] env s (.inr (by simp))] at hE1
    have e0n : ((0 : Nat) : Int) = 0 := rfl
    refine ACalls.enter (mu := []) ok_mix Try.func42 rfl (by kernel_rfl) (by kernel_rfl) (by simp only [List.length_cons, List.length_nil, Try.ntmps42]; omega) ?_
    (repeat (first | refine aSeq fun X hX => ?_ | refine aBlk ?_ | refine aSkip ?_ | (first | refine aExit ?_ | refine aRet ?_); try simp only [slx, ↓reduceIte, Nat.reduceEqDiff, reduceCtorEq] | (first | refine aReg ?_ | refine aDrE ?_ | refine aIf ?_); simp -implicitDefEqProofs only [forall_eq, ↓slp, slb, ↓reduceIte, reduceCtorEq, jA, jB, jC, jD, jE, jF, jG, jH, jI, jJ, jK, tfCeLm4, c1', c2', e0n, Int.reduceBEq] | refine hX _ _ ?_; clear hX X | clear hX X; refine hX _ _ ?_; clear hX X | clear hX X; clear hX X; refine hX _ _ ?_; clear hX X | intro hlen; unfold maxLen at hlen | apply And.intro; focus (first | omega | assumption | (repeat' apply And.intro) <;> first | omega | assumption)))
    refine callM (lend_any hp h 1) ?_
    rintro v m2 ⟨rfl, hc2, h2⟩
    simp -implicitDefEqProofs only [↓slp, slb, ↓reduceIte, reduceCtorEq, jA, jB, jC, jD, jE, jF, jG, jH, jI, jJ, jK, tfCeLm4]
    (repeat (first | refine aSeq fun X hX => ?_ | refine aBlk ?_ | refine aSkip ?_ | (first | refine aExit ?_ | refine aRet ?_); try simp only [slx, ↓reduceIte, Nat.reduceEqDiff, reduceCtorEq] | (first | refine aReg ?_ | refine aDrE ?_ | refine aIf ?_); simp -implicitDefEqProofs only [forall_eq, ↓slp, slb, ↓reduceIte, reduceCtorEq, jA, jB, jC, jD, jE, jF, jG, jH, jI, jJ, jK, tfCeLm4] | refine hX _ _ ?_; clear hX X | clear hX X; refine hX _ _ ?_; clear hX X | clear hX X; clear hX X; refine hX _ _ ?_; clear hX X | intro hlen; unfold maxLen at hlen | apply And.intro; focus (first | omega | assumption | (repeat' apply And.intro) <;> first | omega | assumption)))
    simp only [aPost, Try.results42, aRes_n, aRes_t, aRes_c, pack_one, pack_two]
    exact leave_lm h2 hc2 rfl ⟨hc2, .inr ⟨1, s, vs, bs, hE1, by omega, h2⟩⟩
  rw [callC_add] at hE1
  have e1n : ((1 : Nat) : Int) = 1 := rfl
  refine ACalls.enter (mu := []) ok_mix Try.func42 rfl (by kernel_rfl) (by kernel_rfl) (by simp only [List.length_cons, List.length_nil, Try.ntmps42]; omega) ?_
  (repeat (first | refine aSeq fun X hX => ?_ | refine aBlk ?_ | refine aSkip ?_ | (first | refine aExit ?_ | refine aRet ?_); try simp only [slx, ↓reduceIte, Nat.reduceEqDiff, reduceCtorEq] | (first | refine aReg ?_ | refine aDrE ?_ | refine aIf ?_); simp -implicitDefEqProofs only [forall_eq, ↓slp, slb, ↓reduceIte, reduceCtorEq, jA, jB, jC, jD, jE, jF, jG, jH, jI, jJ, jK, tfCeLm4, c1', c2', e1n, Int.reduceBEq] | refine hX _ _ ?_; clear hX X | clear hX X; refine hX _ _ ?_; clear hX X | clear hX X; clear hX X; refine hX _ _ ?_; clear hX X | intro hlen; unfold maxLen at hlen | apply And.intro; focus (first | omega | assumption | (repeat' apply And.intro) <;> first | omega | assumption)))
  obtain ⟨KK, hKK⟩ : ∃ KK : List Int → CM → CRn Env, ∀ xs m, KK xs m = (evCall body sAdd 1 xs m).bind fun ys m => .ok (env.puts [nmV t] ys) m := ⟨_, fun _ _ => rfl⟩
  have hE2 : EV = (argsC unN binN progL sS 0 env args s).bind KK := by
    rw [hE1]; congr 1; funext xs m; rw [hKK]
  clear hE1
  obtain ⟨I, hI⟩ : ∃ I : F → M → Prop, ∀ f m', I f m' = (∃ (q : Nat) (xs : List Int) (o : Own) (how : Nat) (s' : CM), q ≤ args.length ∧ xs.length = q ∧ f 0 = .bp p.did 0 ∧ f 3 = .ep [.v (.int .u8 4), .v (.string sAdd), .v (.string sP), .v (.int .u8 e.kind), .v (.int .u8 e.op), .v (.int .i32 e.n), .v (.string e.name), .sl .no (e.kids.map CE.pv), .sl .no (thn.map CS.pv), .sl .no (els.map CS.pv), .sl .no (args.map CE.pv), pSL [nmV t]] ∧ f 4 = .sl o (xs.map pJ) ∧ f 5 = .v (.int .i64 q) ∧ m.nb = m'.nb ∧ ChgT p.ids m m' ∧ LR p vs bs s' how m' ∧ Mine m m' o 1 ∧ (∀ x ∈ xs, R32 x) ∧
    ((how = 255 ∧ EV = (argsC unN binN progL sS 0 env (args.drop q) s').bind fun r m => KK (xs ++ r) m) ∨ ((0 < how ∧ how < 255) ∧ EV = .bad how s'))) := ⟨_, fun _ _ => rfl⟩
  refine aLoop I (fun f m => args.length - numOf (f 5)) ?_ ?_
  · rw [hI]; exact ⟨0, [], .full, 255, s, by omega, rfl, rfl, rfl, rfl, rfl, rfl, .refl _ _, h, .full, fun x hx => by simp at hx, .inl ⟨rfl, hE2⟩⟩
  intro f m1 hrel
  rw [hI] at hrel
  obtain ⟨q, xs, o, how, s1, hql, hxl, f0, f3, f4, f5, hnb, hT1, h1, ho1, hx32, hev⟩ := hrel
  clear hE2
  cases c6 : decide ((q : Int) < (args.length : Int)) with
  | true =>
    have hlt : q < args.length := by simpa using c6
    have ga := getD_map CE.pv args q hlt
    have hi1 : IntKind.i64.wrap ((q : Int) + 1) = ((q + 1 : Nat) : Int) := by rw [wrap64 (by omega)]; omega
    have hme : numOf (f 5) = q := by rw [f5]; exact Int.toNat_natCast q
    (repeat (first | refine aSeq fun X hX => ?_ | refine aBlk ?_ | refine aSkip ?_ | (first | refine aExit ?_ | refine aRet ?_); try simp only [slx, ↓reduceIte, Nat.reduceEqDiff, reduceCtorEq] | (first | refine aReg ?_ | refine aDrE ?_); simp -implicitDefEqProofs only [forall_eq, ↓slp, slb, ↓reduceIte, reduceCtorEq, jA, jB, jC, jD, jE, jF, jG, jH, jI, jJ, jK, tfCeLm4, f0, f3, f4, f5, c6] | refine hX _ _ ?_; clear hX X | clear hX X; refine hX _ _ ?_; clear hX X | clear hX X; clear hX X; refine hX _ _ ?_; clear hX X | intro hlen; unfold maxLen at hlen | apply And.intro; focus (first | omega | assumption | (repeat' apply And.intro) <;> first | omega | assumption)))
    refine aIf ?_; simp -implicitDefEqProofs only [↓slp, slb, ↓reduceIte, reduceCtorEq, jA, jB, jC, jD, jE, jF, jG, jH, jI, jJ, jK]
    (repeat (first | refine aSeq fun X hX => ?_ | refine aBlk ?_ | refine aSkip ?_ | (first | refine aExit ?_ | refine aRet ?_); try simp only [slx, ↓reduceIte, Nat.reduceEqDiff, reduceCtorEq] | (first | refine aReg ?_ | refine aDrE ?_); simp -implicitDefEqProofs only [forall_eq, ↓slp, slb, ↓reduceIte, reduceCtorEq, jA, jB, jC, jD, jE, jF, jG, jH, jI, jJ, jK, tfCeLm4, f0, f3, f4, f5, ga] | refine hX _ _ ?_; clear hX X | clear hX X; refine hX _ _ ?_; clear hX X | clear hX X; clear hX X; refine hX _ _ ?_; clear hX X | intro hlen; unfold maxLen at hlen | apply And.intro; focus (first | omega | assumption | (repeat' apply And.intro) <;> first | omega | assumption)))
    have fin : ∀ (m2 : M) (x : Int) (s2 : CM) (how2 : Nat), Chg p.ids m1 m2 → R32 x → LR p vs bs s2 how2 m2 → ((how2 = 255 ∧ EV = (argsC unN binN progL sS 0 env (args.drop (q + 1)) s2).bind fun r m => KK ((xs ++ [x]) ++ r) m) ∨ ((0 < how2 ∧ how2 < 255) ∧ EV = .bad how2 s2)) → ∀ g : F, g 0 = .bp p.did 0 → g 3 = .ep [.v (.int .u8 4), .v (.string sAdd), .v (.string sP), .v (.int .u8 e.kind), .v (.int .u8 e.op), .v (.int .i32 e.n), .v (.string e.name), .sl .no (e.kids.map CE.pv), .sl .no (thn.map CS.pv), .sl .no (els.map CS.pv), .sl .no (args.map CE.pv), pSL [nmV t]] → g 4 = .sl (.tok m2.nt) (xs.map pJ ++ [pJ x]) → g 5 = .v (.int .i64 ((q + 1 : Nat) : Int)) → I g ((o.use m2).fresh 1) := by
      intro m2 x s2 how2 hc2 hxr h2 hev2 g g0 g3 g4 g5
      rw [hI]
      have ho2 := ho1.chg hc2
      have hT := hT1.chg hc2
      refine ⟨q + 1, xs ++ [x], .tok m2.nt, how2, s2, hlt, by simp [hxl], g0, g3, by rw [g4, List.map_append]; rfl, g5, ?_, hT.fresh ho2, h2.toks (fun k => by rw [fresh_get, use_get]), .newT hT o 1, fun y hy => ?_, hev2⟩
      · show m.nb = (o.use m2).boxes.length
        rw [use_boxes]; exact hnb.trans hc2.nb.symm
      · rcases List.mem_append.1 hy with h' | h'
        · exact hx32 y h'
        · rw [List.mem_singleton.1 h']; exact hxr
    rcases hev with ⟨rfl, hev⟩ | ⟨hw, hev⟩
    · rw [List.drop_eq_getElem_cons hlt, argsC_cons] at hev
      refine callM (val_all args[q] (hA _ (List.getElem_mem hlt)).1 (hA _ (List.getElem_mem hlt)).2 p vs bs s1 env m1 hp h1 hE h32) ?_
      rintro v m2 ⟨hc2, ⟨x, s2, hx, rfl, hxr, h2⟩ | ⟨hw, s2, x, hx, hw255, rfl, hxr, h2⟩⟩
      · have hx' : evalC unN binN progL sS 0 env args[q] s1 = .ok x s2 := hx
        rw [CRn.bind_ok hx', CRn.bind_assoc] at hev
        have hfr : o.free m2 1 := (ho1.chg hc2).free
        simp -implicitDefEqProofs only [↓slp, slb, ↓reduceIte, reduceCtorEq, jA, jB, jC, jD, jE, jF, jG, jH, jI, jJ, jK, tfCeLm4, f0, f3, f4, f5]
        refine ⟨⟨hfr, fun y hy => by obtain ⟨z, _, rfl⟩ := List.mem_map.1 hy; rfl, by unfold maxLen; omega, by omega⟩, ?_⟩
        (repeat (first | refine aSeq fun X hX => ?_ | refine aBlk ?_ | refine aSkip ?_ | (first | refine aExit ?_ | refine aRet ?_); try simp only [slx, ↓reduceIte, Nat.reduceEqDiff, reduceCtorEq] | (refine hX _ _ ?_; clear hX X) | (clear hX X; refine hX _ _ ?_; clear hX X)))
        (repeat (first | refine aSeq fun X hX => ?_ | refine aBlk ?_ | refine aSkip ?_ | (first | refine aExit ?_ | refine aRet ?_); try simp only [slx, ↓reduceIte, Nat.reduceEqDiff, reduceCtorEq] | (first | refine aReg ?_ | refine aDrE ?_); simp -implicitDefEqProofs only [forall_eq, ↓slp, slb, ↓reduceIte, reduceCtorEq, jA, jB, jC, jD, jE, jF, jG, jH, jI, jJ, jK, tfCeLm4, f5, hi1] | refine hX _ _ ?_; clear hX X | clear hX X; refine hX _ _ ?_; clear hX X | clear hX X; clear hX X; refine hX _ _ ?_; clear hX X | intro hlen; unfold maxLen at hlen | apply And.intro; focus (first | omega | assumption | (repeat' apply And.intro) <;> first | omega | assumption)))
        refine ⟨fin m2 x s2 255 hc2 hxr h2 (.inl ⟨rfl, ?_⟩) _ f0 f3 rfl rfl, by first | omega | (simp only [↓slp, slb, ↓reduceIte, reduceCtorEq, jA, jB, jC, jD, jE, jF, jG, jH, jI, jJ, jK, f5]; omega)⟩
        rw [hev]
        congr 1
        funext r m
        show (KK (xs ++ x :: r) m) = KK ((xs ++ [x]) ++ r) m
        rw [List.append_assoc]; rfl
      · have hx' : evalC unN binN progL sS 0 env args[q] s1 = .bad hw s2 := hx
        rw [CRn.bind_bad hx'] at hev
        have hfr : o.free m2 1 := (ho1.chg hc2).free
        simp -implicitDefEqProofs only [↓slp, slb, ↓reduceIte, reduceCtorEq, jA, jB, jC, jD, jE, jF, jG, jH, jI, jJ, jK, tfCeLm4, f0, f3, f4, f5]
        refine ⟨⟨hfr, fun y hy => by obtain ⟨z, _, rfl⟩ := List.mem_map.1 hy; rfl, by unfold maxLen; omega, by omega⟩, ?_⟩
        (repeat (first | refine aSeq fun X hX => ?_ | refine aBlk ?_ | refine aSkip ?_ | (first | refine aExit ?_ | refine aRet ?_); try simp only [slx, ↓reduceIte, Nat.reduceEqDiff, reduceCtorEq] | (refine hX _ _ ?_; clear hX X) | (clear hX X; refine hX _ _ ?_; clear hX X)))
        (repeat (first | refine aSeq fun X hX => ?_ | refine aBlk ?_ | refine aSkip ?_ | (first | refine aExit ?_ | refine aRet ?_); try simp only [slx, ↓reduceIte, Nat.reduceEqDiff, reduceCtorEq] | (first | refine aReg ?_ | refine aDrE ?_); simp -implicitDefEqProofs only [forall_eq, ↓slp, slb, ↓reduceIte, reduceCtorEq, jA, jB, jC, jD, jE, jF, jG, jH, jI, jJ, jK, tfCeLm4, f5, hi1] | refine hX _ _ ?_; clear hX X | clear hX X; refine hX _ _ ?_; clear hX X | clear hX X; clear hX X; refine hX _ _ ?_; clear hX X | intro hlen; unfold maxLen at hlen | apply And.intro; focus (first | omega | assumption | (repeat' apply And.intro) <;> first | omega | assumption)))
        exact ⟨fin m2 x s2 hw hc2 hxr h2 (.inr ⟨hw255, hev⟩) _ f0 f3 rfl rfl, by first | omega | (simp only [↓slp, slb, ↓reduceIte, reduceCtorEq, jA, jB, jC, jD, jE, jF, jG, jH, jI, jJ, jK, f5]; omega)⟩
    · refine callE (val_no h1 (by omega) args[q]) ?_
      have hfr : o.free m1 1 := ho1.free
      simp -implicitDefEqProofs only [↓slp, slb, ↓reduceIte, reduceCtorEq, jA, jB, jC, jD, jE, jF, jG, jH, jI, jJ, jK, tfCeLm4, f0, f3, f4, f5]
      refine ⟨⟨hfr, fun y hy => by obtain ⟨z, _, rfl⟩ := List.mem_map.1 hy; rfl, by unfold maxLen; omega, by omega⟩, ?_⟩
      (repeat (first | refine aSeq fun X hX => ?_ | refine aBlk ?_ | refine aSkip ?_ | (first | refine aExit ?_ | refine aRet ?_); try simp only [slx, ↓reduceIte, Nat.reduceEqDiff, reduceCtorEq] | (refine hX _ _ ?_; clear hX X) | (clear hX X; refine hX _ _ ?_; clear hX X)))
      (repeat (first | refine aSeq fun X hX => ?_ | refine aBlk ?_ | refine aSkip ?_ | (first | refine aExit ?_ | refine aRet ?_); try simp only [slx, ↓reduceIte, Nat.reduceEqDiff, reduceCtorEq] | (first | refine aReg ?_ | refine aDrE ?_); simp -implicitDefEqProofs only [forall_eq, ↓slp, slb, ↓reduceIte, reduceCtorEq, jA, jB, jC, jD, jE, jF, jG, jH, jI, jJ, jK, tfCeLm4, f5, hi1] | refine hX _ _ ?_; clear hX X | clear hX X; refine hX _ _ ?_; clear hX X | clear hX X; clear hX X; refine hX _ _ ?_; clear hX X | intro hlen; unfold maxLen at hlen | apply And.intro; focus (first | omega | assumption | (repeat' apply And.intro) <;> first | omega | assumption)))
      exact ⟨fin m1 0 s1 how (.refl _ _) r32_0' h1 (.inr ⟨hw, hev⟩) _ f0 f3 rfl rfl, by first | omega | (simp only [↓slp, slb, ↓reduceIte, reduceCtorEq, jA, jB, jC, jD, jE, jF, jG, jH, jI, jJ, jK, f5]; omega)⟩
  | false =>
  obtain rfl : q = args.length := by simp at c6; omega
  rw [List.drop_length] at hev
  have gd := h1.gd
  (repeat (first | refine aSeq fun X hX => ?_ | refine aBlk ?_ | refine aSkip ?_ | (first | refine aExit ?_ | refine aRet ?_); try simp only [slx, ↓reduceIte, Nat.reduceEqDiff, reduceCtorEq] | (first | refine aReg ?_ | refine aDrE ?_); simp -implicitDefEqProofs only [forall_eq, ↓slp, slb, ↓reduceIte, reduceCtorEq, jA, jB, jC, jD, jE, jF, jG, jH, jI, jJ, jK, tfCeLm4, f0, f3, f4, f5, c6] | refine hX _ _ ?_; clear hX X | clear hX X; refine hX _ _ ?_; clear hX X | clear hX X; clear hX X; refine hX _ _ ?_; clear hX X | intro hlen; unfold maxLen at hlen | apply And.intro; focus (first | omega | assumption | (repeat' apply And.intro) <;> first | omega | assumption)))
  refine aIf ?_; simp -implicitDefEqProofs only [↓slp, slb, ↓reduceIte, reduceCtorEq, jA, jB, jC, jD, jE, jF, jG, jH, jI, jJ, jK]
  rcases hev with ⟨rfl, hev⟩ | ⟨hw, hev⟩
  rotate_left
  · have ch : ((how : Int) == 255) = false := by simp; omega
    (repeat (first | refine aSeq fun X hX => ?_ | refine aBlk ?_ | refine aSkip ?_ | (first | refine aExit ?_ | refine aRet ?_); try simp only [slx, ↓reduceIte, Nat.reduceEqDiff, reduceCtorEq] | (first | refine aReg ?_ | refine aDrE ?_ | refine aIf ?_); simp -implicitDefEqProofs only [forall_eq, ↓slp, slb, ↓reduceIte, reduceCtorEq, jA, jB, jC, jD, jE, jF, jG, jH, jI, jJ, jK, tfCeLm4, f0, f3, f4, f5, gd, ch] | refine hX _ _ ?_; clear hX X | clear hX X; refine hX _ _ ?_; clear hX X | clear hX X; clear hX X; refine hX _ _ ?_; clear hX X | intro hlen; unfold maxLen at hlen | apply And.intro; focus (first | omega | assumption | (repeat' apply And.intro) <;> first | omega | assumption)))
    simp only [aPost, Try.results42, aRes_n, aRes_t, aRes_c, pack_one, pack_two]
    exact leave_lmT hnb h1 hT1 rfl ⟨hT1.cut, .inr ⟨how, s1, vs, bs, hev, hw, h1.cut hnb⟩⟩
  have hev2 : EV = KK xs s1 := by rw [hev, argsC, CRn.bind, List.append_nil]
  clear hev hI
  rw [hKK] at hev2
  cases c9 : ((xs.length : Int) == 1) with
  | false =>
    have hx1 : xs.length ≠ 1 := by intro hh; rw [hh] at c9; simp at c9
    rw [add_bad body xs s1 hx1] at hev2
    (repeat (first | refine aSeq fun X hX => ?_ | refine aBlk ?_ | refine aSkip ?_ | (first | refine aExit ?_ | refine aRet ?_); try simp only [slx, ↓reduceIte, Nat.reduceEqDiff, reduceCtorEq] | (first | refine aReg ?_ | refine aDrE ?_ | refine aIf ?_); simp -implicitDefEqProofs only [forall_eq, ↓slp, slb, ↓reduceIte, reduceCtorEq, jA, jB, jC, jD, jE, jF, jG, jH, jI, jJ, jK, tfCeLm4, f0, f3, f4, f5, gd, e255, c9, Int.reduceBEq] | refine hX _ _ ?_; clear hX X | clear hX X; refine hX _ _ ?_; clear hX X | clear hX X; clear hX X; refine hX _ _ ?_; clear hX X | intro hlen; unfold maxLen at hlen | apply And.intro; focus (first | omega | assumption | (repeat' apply And.intro) <;> first | omega | assumption)))
    refine callM (lend_any hp h1 1) ?_
    rintro v m2 ⟨rfl, hc2, h2⟩
    simp -implicitDefEqProofs only [↓slp, slb, ↓reduceIte, reduceCtorEq, jA, jB, jC, jD, jE, jF, jG, jH, jI, jJ, jK, tfCeLm4]
    (repeat (first | refine aSeq fun X hX => ?_ | refine aBlk ?_ | refine aSkip ?_ | (first | refine aExit ?_ | refine aRet ?_); try simp only [slx, ↓reduceIte, Nat.reduceEqDiff, reduceCtorEq] | (first | refine aReg ?_ | refine aDrE ?_ | refine aIf ?_); simp -implicitDefEqProofs only [forall_eq, ↓slp, slb, ↓reduceIte, reduceCtorEq, jA, jB, jC, jD, jE, jF, jG, jH, jI, jJ, jK, tfCeLm4] | refine hX _ _ ?_; clear hX X | clear hX X; refine hX _ _ ?_; clear hX X | clear hX X; clear hX X; refine hX _ _ ?_; clear hX X | intro hlen; unfold maxLen at hlen | apply And.intro; focus (first | omega | assumption | (repeat' apply And.intro) <;> first | omega | assumption)))
    simp only [aPost, Try.results42, aRes_n, aRes_t, aRes_c, pack_one, pack_two]
    have hT2 := hT1.chg hc2
    have hnb2 : m.nb = m2.nb := hnb.trans hc2.nb.symm
    exact leave_lmT hnb2 h2 hT2 rfl ⟨hT2.cut, .inr ⟨1, s1, vs, bs, hev2, by omega, h2.cut hnb2⟩⟩
  | true =>
  have hx1 : xs.length = 1 := by have := eq_of_beq c9; omega
  obtain ⟨x, rfl⟩ := List.length_eq_one_iff.1 hx1
  rw [add_run] at hev2
  have hxr : R32 x := hx32 x (by simp)
  (repeat (first | refine aSeq fun X hX => ?_ | refine aBlk ?_ | refine aSkip ?_ | (first | refine aExit ?_ | refine aRet ?_); try simp only [slx, ↓reduceIte, Nat.reduceEqDiff, reduceCtorEq] | (first | refine aReg ?_ | refine aDrE ?_ | refine aIf ?_); simp -implicitDefEqProofs only [forall_eq, ↓slp, slb, ↓reduceIte, reduceCtorEq, jA, jB, jC, jD, jE, jF, jG, jH, jI, jJ, jK, tfCeLm4, f0, f3, f4, f5, gd, e255, e1n, Int.reduceBEq] | refine hX _ _ ?_; clear hX X | clear hX X; refine hX _ _ ?_; clear hX X | clear hX X; clear hX X; refine hX _ _ ?_; clear hX X | intro hlen; unfold maxLen at hlen | apply And.intro; focus (first | omega | assumption | (repeat' apply And.intro) <;> first | omega | assumption)))
  have hbad : ∀ (m2 : M) (s2 : CM) (hw : Nat), Chg p.ids m1 m2 → LR p vs bs s2 hw m2 → (0 < hw ∧ hw < 255) → addV x s1 = .bad hw s2 → ∃ v' m', Leave m m2 (PV.tp []) v' m' ∧ RetL p m EV v' m' := fun m2 s2 hw hc h2 hw2 ha => by
    have hT2 := hT1.chg hc
    have hnb2 : m.nb = m2.nb := hnb.trans hc.nb.symm
    rw [ha] at hev2
    exact leave_lmT hnb2 h2 hT2 rfl ⟨hT2.cut, .inr ⟨hw, s2, vs, bs, hev2, hw2, h2.cut hnb2⟩⟩
  have h62 := h1.l62
  by_cases l0 : s1.left = 0
  · refine callM (lstep_out hp h1 l0) ?_
    rintro v m2 ⟨rfl, hc2, h2⟩
    simp -implicitDefEqProofs only [↓slp, slb, ↓reduceIte, reduceCtorEq, jA, jB, jC, jD, jE, jF, jG, jH, jI, jJ, jK, tfCeLm4]
    (repeat (first | refine aSeq fun X hX => ?_ | refine aBlk ?_ | refine aSkip ?_ | (first | refine aExit ?_ | refine aRet ?_); try simp only [slx, ↓reduceIte, Nat.reduceEqDiff, reduceCtorEq] | (first | refine aReg ?_ | refine aDrE ?_ | refine aIf ?_); simp -implicitDefEqProofs only [forall_eq, ↓slp, slb, ↓reduceIte, reduceCtorEq, jA, jB, jC, jD, jE, jF, jG, jH, jI, jJ, jK, tfCeLm4] | refine hX _ _ ?_; clear hX X | clear hX X; refine hX _ _ ?_; clear hX X | clear hX X; clear hX X; refine hX _ _ ?_; clear hX X | intro hlen; unfold maxLen at hlen | apply And.intro; focus (first | omega | assumption | (repeat' apply And.intro) <;> first | omega | assumption)))
    simp only [aPost, Try.results42, aRes_n, aRes_t, aRes_c, pack_one, pack_two]
    exact hbad m2 s1 4 hc2 h2 (by omega) (by unfold addV; rw [if_pos (by omega)]; congr 1; cases s1; simp only at l0; rw [l0])
  refine callM (lstep_ok hp h1 (by omega)) ?_
  rintro v m2 ⟨rfl, hc2, h2⟩
  simp -implicitDefEqProofs only [↓slp, slb, ↓reduceIte, reduceCtorEq, jA, jB, jC, jD, jE, jF, jG, jH, jI, jJ, jK, tfCeLm4, f0]
  by_cases l1 : s1.left = 1
  · refine callM (lstep_out hp h2 (by show s1.left - 1 = 0; omega)) ?_
    rintro v m3 ⟨rfl, hc3, h3⟩
    simp -implicitDefEqProofs only [↓slp, slb, ↓reduceIte, reduceCtorEq, jA, jB, jC, jD, jE, jF, jG, jH, jI, jJ, jK, tfCeLm4]
    (repeat (first | refine aSeq fun X hX => ?_ | refine aBlk ?_ | refine aSkip ?_ | (first | refine aExit ?_ | refine aRet ?_); try simp only [slx, ↓reduceIte, Nat.reduceEqDiff, reduceCtorEq] | (first | refine aReg ?_ | refine aDrE ?_ | refine aIf ?_); simp -implicitDefEqProofs only [forall_eq, ↓slp, slb, ↓reduceIte, reduceCtorEq, jA, jB, jC, jD, jE, jF, jG, jH, jI, jJ, jK, tfCeLm4] | refine hX _ _ ?_; clear hX X | clear hX X; refine hX _ _ ?_; clear hX X | clear hX X; clear hX X; refine hX _ _ ?_; clear hX X | intro hlen; unfold maxLen at hlen | apply And.intro; focus (first | omega | assumption | (repeat' apply And.intro) <;> first | omega | assumption)))
    simp only [aPost, Try.results42, aRes_n, aRes_t, aRes_c, pack_one, pack_two]
    exact hbad m3 _ 4 (hc2.trans hc3) h3 (by omega) (by unfold addV; rw [if_pos (by omega)]; congr 2; omega)
  refine callM (lstep_ok hp h2 (by show 1 ≤ s1.left - 1; omega)) ?_
  rintro v m3 ⟨rfl, hc3, h3⟩
  have hc13 := hc2.trans hc3
  obtain ⟨s3, hs3⟩ : ∃ s3 : CM, s3 = { s1 with left := s1.left - 2 } := ⟨_, rfl⟩
  have h3' : LR p vs bs s3 255 m3 := by rw [hs3]; exact h3
  clear h3
  have gd3 := h3'.gd
  cases cm : decide ((s3.mem.length : Int) < 2) with
  | true =>
    have hm2 : s3.mem.length < 2 := by simp at cm; omega
    simp -implicitDefEqProofs only [↓slp, slb, ↓reduceIte, reduceCtorEq, jA, jB, jC, jD, jE, jF, jG, jH, jI, jJ, jK, tfCeLm4, f0]
    (repeat (first | refine aSeq fun X hX => ?_ | refine aBlk ?_ | refine aSkip ?_ | (first | refine aExit ?_ | refine aRet ?_); try simp only [slx, ↓reduceIte, Nat.reduceEqDiff, reduceCtorEq] | (first | refine aReg ?_ | refine aDrE ?_ | refine aIf ?_); simp -implicitDefEqProofs only [forall_eq, ↓slp, slb, ↓reduceIte, reduceCtorEq, jA, jB, jC, jD, jE, jF, jG, jH, jI, jJ, jK, tfCeLm4, f0, gd3, cm] | refine hX _ _ ?_; clear hX X | clear hX X; refine hX _ _ ?_; clear hX X | clear hX X; clear hX X; refine hX _ _ ?_; clear hX X | intro hlen; unfold maxLen at hlen | apply And.intro; focus (first | omega | assumption | (repeat' apply And.intro) <;> first | omega | assumption)))
    refine callM (lend_any hp h3' 2) ?_
    rintro v m4 ⟨rfl, hc4, h4⟩
    simp -implicitDefEqProofs only [↓slp, slb, ↓reduceIte, reduceCtorEq, jA, jB, jC, jD, jE, jF, jG, jH, jI, jJ, jK, tfCeLm4]
    (repeat (first | refine aSeq fun X hX => ?_ | refine aBlk ?_ | refine aSkip ?_ | (first | refine aExit ?_ | refine aRet ?_); try simp only [slx, ↓reduceIte, Nat.reduceEqDiff, reduceCtorEq] | (first | refine aReg ?_ | refine aDrE ?_ | refine aIf ?_); simp -implicitDefEqProofs only [forall_eq, ↓slp, slb, ↓reduceIte, reduceCtorEq, jA, jB, jC, jD, jE, jF, jG, jH, jI, jJ, jK, tfCeLm4] | refine hX _ _ ?_; clear hX X | clear hX X; refine hX _ _ ?_; clear hX X | clear hX X; clear hX X; refine hX _ _ ?_; clear hX X | intro hlen; unfold maxLen at hlen | apply And.intro; focus (first | omega | assumption | (repeat' apply And.intro) <;> first | omega | assumption)))
    simp only [aPost, Try.results42, aRes_n, aRes_t, aRes_c, pack_one, pack_two]
    exact hbad m4 s3 2 (hc13.trans hc4) h4 (by omega) (by unfold addV; rw [if_neg (by omega), if_pos (by rw [hs3] at hm2; exact hm2), hs3])
  | false =>
  have hm2 : 2 ≤ s3.mem.length := by simp at cm; omega
  have hm1 : 1 < s3.mem.length := by omega
  have hkt : 1 < s3.tch.length := by rw [h3'.tlen]; exact hm1
  have gt := h3'.gt
  have gm := h3'.gm
  have h4 := h3'.touch hp 1
  have hlt' : (tchB s3.tch).length = s3.mem.length := by simp [h3'.tlen]
  have hlm : (memB s3.mem).length = s3.mem.length := by simp
  have gx : (memB s3.mem).getD 1 .junk = pJ s3.mem[1] := by simp [hm1]
  have gd2 : ∀ c, (m3.upd p.dt c).get p.did = some _ := fun c => (get_upd_ne hp.n2).trans gd3
  have gm2 : ∀ c, (m3.upd p.dt c).get p.dm = some _ := fun c => (get_upd_ne hp.n3).trans gm
  have hset : List.take 1 (tchB s3.tch) ++ [PV.v (.bool true)] ++ List.drop 2 (tchB s3.tch) = tchB (s3.tch.set 1 true) := by
    rw [List.set_eq_take_append_cons_drop, if_pos hkt]
    simp
  simp -implicitDefEqProofs only [↓slp, slb, ↓reduceIte, reduceCtorEq, jA, jB, jC, jD, jE, jF, jG, jH, jI, jJ, jK, tfCeLm4, f0]
  (repeat (first | refine aSeq fun X hX => ?_ | refine aBlk ?_ | refine aSkip ?_ | (first | refine aExit ?_ | refine aRet ?_); try simp only [slx, ↓reduceIte, Nat.reduceEqDiff, reduceCtorEq] | (first | refine aReg ?_ | refine aDrE ?_ | refine aIf ?_); simp -implicitDefEqProofs only [forall_eq, ↓slp, slb, ↓reduceIte, reduceCtorEq, jA, jB, jC, jD, jE, jF, jG, jH, jI, jJ, jK, tfCeLm4, f0, gd3, cm, gt, hlt'] | refine hX _ _ ?_; clear hX X | clear hX X; refine hX _ _ ?_; clear hX X | clear hX X; clear hX X; refine hX _ _ ?_; clear hX X | intro hlen; unfold maxLen at hlen | apply And.intro; focus (first | omega | assumption | (repeat' apply And.intro) <;> first | omega | assumption)))
  rw [hset]
  simp -implicitDefEqProofs only [↓slp, slb, ↓reduceIte, reduceCtorEq, jA, jB, jC, jD, jE, jF, jG, jH, jI, jJ, jK, tfCeLm4, gd2, gm2, gx, hlm]
  refine ⟨hm1, hm1, ?_⟩
  (repeat (first | refine aSeq fun X hX => ?_ | refine aBlk ?_ | refine aSkip ?_ | (first | refine aExit ?_ | refine aRet ?_); try simp only [slx, ↓reduceIte, Nat.reduceEqDiff, reduceCtorEq] | (first | refine aReg ?_ | refine aDrE ?_ | refine aIf ?_); simp -implicitDefEqProofs only [forall_eq, ↓slp, slb, ↓reduceIte, reduceCtorEq, jA, jB, jC, jD, jE, jF, jG, jH, jI, jJ, jK, tfCeLm4, f0] | refine hX _ _ ?_; clear hX X | clear hX X; refine hX _ _ ?_; clear hX X | clear hX X; clear hX X; refine hX _ _ ?_; clear hX X | intro hlen; unfold maxLen at hlen | apply And.intro; focus (first | omega | assumption | (repeat' apply And.intro) <;> first | omega | assumption)))
  have hc14 := hc13.trans (chg_t (p := p) (m := m3) (tchB (s3.tch.set 1 true)))
  generalize m3.upd p.dt (tchB (s3.tch.set 1 true)) = m4 at *
  have hl3 : s3.left = s1.left - 2 := by rw [hs3]
  have hmem3 : s3.mem = s1.mem := by rw [hs3]
  have htch3 : s3.tch = s1.tch := by rw [hs3]
  by_cases r0 : s3.left = 0
  · refine callM (lstep_out hp h4 (by show s3.left = 0; omega)) ?_
    rintro v mx ⟨rfl, hcx, hx⟩
    simp -implicitDefEqProofs only [↓slp, slb, ↓reduceIte, reduceCtorEq, jA, jB, jC, jD, jE, jF, jG, jH, jI, jJ, jK, tfCeLm4, f0]
    (repeat (first | refine aSeq fun X hX => ?_ | refine aBlk ?_ | refine aSkip ?_ | (first | refine aExit ?_ | refine aRet ?_); try simp only [slx, ↓reduceIte, Nat.reduceEqDiff, reduceCtorEq] | (first | refine aReg ?_ | refine aDrE ?_ | refine aIf ?_); simp -implicitDefEqProofs only [forall_eq, ↓slp, slb, ↓reduceIte, reduceCtorEq, jA, jB, jC, jD, jE, jF, jG, jH, jI, jJ, jK, tfCeLm4, f0] | refine hX _ _ ?_; clear hX X | clear hX X; refine hX _ _ ?_; clear hX X | clear hX X; clear hX X; refine hX _ _ ?_; clear hX X | intro hlen; unfold maxLen at hlen | apply And.intro; focus (first | omega | assumption | (repeat' apply And.intro) <;> first | omega | assumption)))
    simp only [aPost, Try.results42, aRes_n, aRes_t, aRes_c, pack_one, pack_two]
    exact hbad mx _ 4 (hc14.trans hcx) hx (by omega) (by
      unfold addV
      rw [if_neg (by omega), if_neg (by rw [← hmem3]; omega), if_pos (by omega)]
      show CRn.bad 4 ⟨s1.mem, s1.tch.set 1 true, 0⟩ = CRn.bad 4 ⟨s3.mem, s3.tch.set 1 true, s3.left⟩
      rw [hmem3, htch3, show s3.left = 0 by omega])
  refine callM (lstep_ok hp h4 (by show 1 ≤ s3.left; omega)) ?_
  rintro v m5 ⟨rfl, hcn0, h5⟩
  have hc15 := hc14.trans hcn0
  simp -implicitDefEqProofs only [↓slp, slb, ↓reduceIte, reduceCtorEq, jA, jB, jC, jD, jE, jF, jG, jH, jI, jJ, jK, tfCeLm4, f0]
  by_cases r1 : s3.left = 1
  · refine callM (lstep_out hp h5 (by show s3.left - 1 = 0; omega)) ?_
    rintro v mx ⟨rfl, hcx, hx⟩
    simp -implicitDefEqProofs only [↓slp, slb, ↓reduceIte, reduceCtorEq, jA, jB, jC, jD, jE, jF, jG, jH, jI, jJ, jK, tfCeLm4, f0]
    (repeat (first | refine aSeq fun X hX => ?_ | refine aBlk ?_ | refine aSkip ?_ | (first | refine aExit ?_ | refine aRet ?_); try simp only [slx, ↓reduceIte, Nat.reduceEqDiff, reduceCtorEq] | (first | refine aReg ?_ | refine aDrE ?_ | refine aIf ?_); simp -implicitDefEqProofs only [forall_eq, ↓slp, slb, ↓reduceIte, reduceCtorEq, jA, jB, jC, jD, jE, jF, jG, jH, jI, jJ, jK, tfCeLm4, f0] | refine hX _ _ ?_; clear hX X | clear hX X; refine hX _ _ ?_; clear hX X | clear hX X; clear hX X; refine hX _ _ ?_; clear hX X | intro hlen; unfold maxLen at hlen | apply And.intro; focus (first | omega | assumption | (repeat' apply And.intro) <;> first | omega | assumption)))
    simp only [aPost, Try.results42, aRes_n, aRes_t, aRes_c, pack_one, pack_two]
    exact hbad mx _ 4 (hc15.trans hcx) hx (by omega) (by
      unfold addV
      rw [if_neg (by omega), if_neg (by rw [← hmem3]; omega), if_pos (by omega)]
      show CRn.bad 4 ⟨s1.mem, s1.tch.set 1 true, 0⟩ = CRn.bad 4 ⟨s3.mem, s3.tch.set 1 true, s3.left - 1⟩
      rw [hmem3, htch3, show s3.left - 1 = 0 by omega])
  refine callM (lstep_ok hp h5 (by show 1 ≤ s3.left - 1; omega)) ?_
  rintro v m6 ⟨rfl, hcn1, h6⟩
  have hc16 := hc15.trans hcn1
  simp -implicitDefEqProofs only [↓slp, slb, ↓reduceIte, reduceCtorEq, jA, jB, jC, jD, jE, jF, jG, jH, jI, jJ, jK, tfCeLm4, f0]
  by_cases r2 : s3.left = 2
  · refine callM (lstep_out hp h6 (by show s3.left - 1 - 1 = 0; omega)) ?_
    rintro v mx ⟨rfl, hcx, hx⟩
    simp -implicitDefEqProofs only [↓slp, slb, ↓reduceIte, reduceCtorEq, jA, jB, jC, jD, jE, jF, jG, jH, jI, jJ, jK, tfCeLm4, f0]
    (repeat (first | refine aSeq fun X hX => ?_ | refine aBlk ?_ | refine aSkip ?_ | (first | refine aExit ?_ | refine aRet ?_); try simp only [slx, ↓reduceIte, Nat.reduceEqDiff, reduceCtorEq] | (first | refine aReg ?_ | refine aDrE ?_ | refine aIf ?_); simp -implicitDefEqProofs only [forall_eq, ↓slp, slb, ↓reduceIte, reduceCtorEq, jA, jB, jC, jD, jE, jF, jG, jH, jI, jJ, jK, tfCeLm4, f0] | refine hX _ _ ?_; clear hX X | clear hX X; refine hX _ _ ?_; clear hX X | clear hX X; clear hX X; refine hX _ _ ?_; clear hX X | intro hlen; unfold maxLen at hlen | apply And.intro; focus (first | omega | assumption | (repeat' apply And.intro) <;> first | omega | assumption)))
    simp only [aPost, Try.results42, aRes_n, aRes_t, aRes_c, pack_one, pack_two]
    exact hbad mx _ 4 (hc16.trans hcx) hx (by omega) (by
      unfold addV
      rw [if_neg (by omega), if_neg (by rw [← hmem3]; omega), if_pos (by omega)]
      show CRn.bad 4 ⟨s1.mem, s1.tch.set 1 true, 0⟩ = CRn.bad 4 ⟨s3.mem, s3.tch.set 1 true, s3.left - 1 - 1⟩
      rw [hmem3, htch3, show s3.left - 1 - 1 = 0 by omega])
  refine callM (lstep_ok hp h6 (by show 1 ≤ s3.left - 1 - 1; omega)) ?_
  rintro v m7 ⟨rfl, hcn2, h7⟩
  have hc17 := hc16.trans hcn2
  simp -implicitDefEqProofs only [↓slp, slb, ↓reduceIte, reduceCtorEq, jA, jB, jC, jD, jE, jF, jG, jH, jI, jJ, jK, tfCeLm4, f0]
  by_cases r3 : s3.left = 3
  · refine callM (lstep_out hp h7 (by show s3.left - 1 - 1 - 1 = 0; omega)) ?_
    rintro v mx ⟨rfl, hcx, hx⟩
    simp -implicitDefEqProofs only [↓slp, slb, ↓reduceIte, reduceCtorEq, jA, jB, jC, jD, jE, jF, jG, jH, jI, jJ, jK, tfCeLm4, f0]
    (repeat (first | refine aSeq fun X hX => ?_ | refine aBlk ?_ | refine aSkip ?_ | (first | refine aExit ?_ | refine aRet ?_); try simp only [slx, ↓reduceIte, Nat.reduceEqDiff, reduceCtorEq] | (first | refine aReg ?_ | refine aDrE ?_ | refine aIf ?_); simp -implicitDefEqProofs only [forall_eq, ↓slp, slb, ↓reduceIte, reduceCtorEq, jA, jB, jC, jD, jE, jF, jG, jH, jI, jJ, jK, tfCeLm4, f0] | refine hX _ _ ?_; clear hX X | clear hX X; refine hX _ _ ?_; clear hX X | clear hX X; clear hX X; refine hX _ _ ?_; clear hX X | intro hlen; unfold maxLen at hlen | apply And.intro; focus (first | omega | assumption | (repeat' apply And.intro) <;> first | omega | assumption)))
    simp only [aPost, Try.results42, aRes_n, aRes_t, aRes_c, pack_one, pack_two]
    exact hbad mx _ 4 (hc17.trans hcx) hx (by omega) (by
      unfold addV
      rw [if_neg (by omega), if_neg (by rw [← hmem3]; omega), if_pos (by omega)]
      show CRn.bad 4 ⟨s1.mem, s1.tch.set 1 true, 0⟩ = CRn.bad 4 ⟨s3.mem, s3.tch.set 1 true, s3.left - 1 - 1 - 1⟩
      rw [hmem3, htch3, show s3.left - 1 - 1 - 1 = 0 by omega])
  refine callM (lstep_ok hp h7 (by show 1 ≤ s3.left - 1 - 1 - 1; omega)) ?_
  rintro v m8 ⟨rfl, hcn3, h8⟩
  have hc18 := hc17.trans hcn3
  simp -implicitDefEqProofs only [↓slp, slb, ↓reduceIte, reduceCtorEq, jA, jB, jC, jD, jE, jF, jG, jH, jI, jJ, jK, tfCeLm4, f0]
  obtain ⟨s8, hs8⟩ : ∃ s8 : CM, s8 = ⟨s1.mem, s1.tch.set 1 true, s1.left - 6⟩ := ⟨_, rfl⟩
  have h8' : LR p vs bs s8 255 m8 := by
    have e : s8 = ⟨s3.mem, s3.tch.set 1 true, s3.left - 1 - 1 - 1 - 1⟩ := by rw [hs8, hmem3, htch3, show s3.left - 1 - 1 - 1 - 1 = s1.left - 6 by omega]
    rw [e]; exact h8
  have hm8 : s8.mem = s3.mem := by rw [hs8, hmem3]
  have gd8 := h8'.gd
  have gm8 := h8'.gm
  have ho32 : R32 s3.mem[1] := h3'.m32 _ (List.getElem_mem hm1)
  have hbr : R32 (binN 3 s3.mem[1] x) := binN_bd _ _ _ ho32
  have h9 := h8'.store hp 1 (binN 3 s3.mem[1] x) hbr
  obtain ⟨P2, hP2⟩ : ∃ P2 : M → Prop, ∀ m3, P2 m3 ↔ m3.get p.did = some (lCells p vs bs s8.mem.length s8.left 255) := ⟨_, fun _ => Iff.rfl⟩
  have g2 : ∀ x : Subtype P2, x.1.get p.did = some _ := fun x => (hP2 _).1 x.2
  have hm81 : 1 < s8.mem.length := by rw [hm8]; exact hm1
  have hlm8 : (memB s8.mem).length = s8.mem.length := by simp
  have hset8 : List.take 1 (memB s8.mem) ++ [PV.v (.int .i32 (binN 3 s3.mem[1] x))] ++ List.drop 2 (memB s8.mem) = memB (s8.mem.set 1 (binN 3 s3.mem[1] x)) := by
    rw [List.set_eq_take_append_cons_drop, if_pos hm81]
    simp
  (repeat (first | refine aSeq fun X hX => ?_ | refine aBlk ?_ | refine aSkip ?_ | (first | refine aExit ?_ | refine aRet ?_); try simp only [slx, ↓reduceIte, Nat.reduceEqDiff, reduceCtorEq] | (first | refine aReg ?_ | refine aIf ?_); simp -implicitDefEqProofs only [forall_eq, ↓slp, slb, ↓reduceIte, reduceCtorEq, jA, jB, jC, jD, jE, jF, jG, jH, jI, jJ, jK, tfCeLm4, f0] | refine hX _ _ ?_; clear hX X | clear hX X; refine hX _ _ ?_; clear hX X | clear hX X; clear hX X; refine hX _ _ ?_; clear hX X | intro hlen; unfold maxLen at hlen | apply And.intro; focus (first | omega | assumption | (repeat' apply And.intro) <;> first | omega | assumption)))
  refine aDrw (isP P2) (by kernel_rfl) (isP_of ((hP2 _).2 gd8)) ?_
  simp -implicitDefEqProofs only [↓slp, slb, ↓reduceIte, reduceCtorEq, jA, jB, jC, jD, jE, jF, jG, jH, jI, jJ, jK, tfCeLm4, isP_all, f0, f4, gd8, g2]
  refine callE (refBin_any 3 s3.mem[1] x ho32 hxr m8) ?_
  refine ⟨isP_of ((hP2 _).2 gd8), ?_⟩
  simp -implicitDefEqProofs only [↓slp, slb, ↓reduceIte, reduceCtorEq, jA, jB, jC, jD, jE, jF, jG, jH, jI, jJ, jK, tfCeLm4, isP_all, f0, f4, gd8, g2, gm8, hlm8]
  refine ⟨hm81, hm81, ?_⟩
  rw [hset8]
  have gd9 := h9.gd
  refine ⟨isP_of ((hP2 _).2 (by rw [show s8.mem.length = (s8.mem.set 1 (binN 3 s3.mem[1] x)).length from List.length_set.symm]; exact gd9)), ?_⟩
  have hc19 := hc18.trans (chg_m (p := p) (m := m8) (memB (s8.mem.set 1 (binN 3 s3.mem[1] x))))
  generalize m8.upd p.dm (memB (s8.mem.set 1 (binN 3 s3.mem[1] x))) = m9 at *
  have hgx : s1.mem.getD 1 0 = s3.mem[1] := by rw [← hmem3]; simp [hm1]
  rw [show addV x s1 = .ok [s3.mem[1]] ⟨s8.mem.set 1 (binN 3 s3.mem[1] x), s8.tch, s8.left⟩ by
    unfold addV
    rw [if_neg (by omega), if_neg (by rw [← hmem3]; omega), if_neg (by omega), hgx, hs8]] at hev2
  have hev3 : EV = .ok (env.put (nmV t) s3.mem[1]) ⟨s8.mem.set 1 (binN 3 s3.mem[1] x), s8.tch, s8.left⟩ := hev2
  clear hev2
  have hev2 := hev3
  have hsz : (nmV t).size = 2 := rfl
  have ux := nmV_k t ht
  (repeat (first | refine aSeq fun X hX => ?_ | refine aBlk ?_ | refine aSkip ?_ | (first | refine aExit ?_ | refine aRet ?_); try simp only [slx, ↓reduceIte, Nat.reduceEqDiff, reduceCtorEq] | (refine hX _ _ ?_; clear hX X) | (clear hX X; refine hX _ _ ?_; clear hX X)))
  (repeat (first | refine aSeq fun X hX => ?_ | refine aBlk ?_ | refine aSkip ?_ | (first | refine aExit ?_ | refine aRet ?_); try simp only [slx, ↓reduceIte, Nat.reduceEqDiff, reduceCtorEq] | (first | refine aReg ?_ | refine aIf ?_); simp -implicitDefEqProofs only [forall_eq, ↓slp, slb, ↓reduceIte, reduceCtorEq, jA, jB, jC, jD, jE, jF, jG, jH, jI, jJ, jK, tfCeLm4, f0, f3, ux] | refine hX _ _ ?_; clear hX X | clear hX X; refine hX _ _ ?_; clear hX X | clear hX X; clear hX X; refine hX _ _ ?_; clear hX X | intro hlen; unfold maxLen at hlen | apply And.intro; focus (first | omega | assumption | (repeat' apply And.intro) <;> first | omega | assumption)))
  have ht4 : t = 0 ∨ t = 1 ∨ t = 2 ∨ t = 3 := by omega
  rcases ht4 with rfl | rfl | rfl | rfl
  · have h10 := h9.box hp (vs' := updN vs 0 s3.mem[1]) (bs' := bs) (left' := s8.left) (how' := 255) h9.l62
    have h11 := h10.box hp (vs' := updN vs 0 s3.mem[1]) (bs' := updN bs 0 true) (left' := s8.left) (how' := 255) h9.l62
    have gd10 : ∀ c, (m9.upd p.did c).get p.did = some c := fun c => get_upd_eq gd9
    simp -implicitDefEqProofs only [↓slp, slb, ↓reduceIte, reduceCtorEq, jA, jB, jC, jD, jE, jF, jG, jH, jI, jJ, jK, tfCeLm4, gd9]
    (repeat (first | refine aSeq fun X hX => ?_ | refine aBlk ?_ | refine aSkip ?_ | (first | refine aExit ?_ | refine aRet ?_); try simp only [slx, ↓reduceIte, Nat.reduceEqDiff, reduceCtorEq] | (first | refine aReg ?_ | refine aDrE ?_ | refine aIf ?_); simp -implicitDefEqProofs only [forall_eq, ↓slp, slb, ↓reduceIte, reduceCtorEq, jA, jB, jC, jD, jE, jF, jG, jH, jI, jJ, jK, tfCeLm4, f0, gd10, ux] | refine hX _ _ ?_; clear hX X | clear hX X; refine hX _ _ ?_; clear hX X | clear hX X; clear hX X; refine hX _ _ ?_; clear hX X | intro hlen; unfold maxLen at hlen | apply And.intro; focus (first | omega | assumption | (repeat' apply And.intro) <;> first | omega | assumption)))
    simp only [aPost, Try.results42, aRes_n, aRes_t, aRes_c, pack_one, pack_two]
    have hc20 := (hc19.trans (chg_box (p := p) (m := m9) (lCells p (updN vs 0 s3.mem[1]) bs (s8.mem.set 1 (binN 3 s3.mem[1] x)).length s8.left 255))).trans (chg_box (lCells p (updN vs 0 s3.mem[1]) (updN bs 0 true) (s8.mem.set 1 (binN 3 s3.mem[1] x)).length s8.left 255))
    have hT20 := hT1.chg hc20
    have hnb20 := hnb.trans hc20.nb.symm
    exact leave_lmT hnb20 h11 hT20 rfl ⟨hT20.cut, .inl ⟨_, _, _, _, hev2, hE.put ht s3.mem[1], put32 h32 _ _ ho32, h11.cut hnb20⟩⟩
  · have h10 := h9.box hp (vs' := updN vs 1 s3.mem[1]) (bs' := bs) (left' := s8.left) (how' := 255) h9.l62
    have h11 := h10.box hp (vs' := updN vs 1 s3.mem[1]) (bs' := updN bs 1 true) (left' := s8.left) (how' := 255) h9.l62
    have gd10 : ∀ c, (m9.upd p.did c).get p.did = some c := fun c => get_upd_eq gd9
    simp -implicitDefEqProofs only [↓slp, slb, ↓reduceIte, reduceCtorEq, jA, jB, jC, jD, jE, jF, jG, jH, jI, jJ, jK, tfCeLm4, gd9]
    (repeat (first | refine aSeq fun X hX => ?_ | refine aBlk ?_ | refine aSkip ?_ | (first | refine aExit ?_ | refine aRet ?_); try simp only [slx, ↓reduceIte, Nat.reduceEqDiff, reduceCtorEq] | (first | refine aReg ?_ | refine aDrE ?_ | refine aIf ?_); simp -implicitDefEqProofs only [forall_eq, ↓slp, slb, ↓reduceIte, reduceCtorEq, jA, jB, jC, jD, jE, jF, jG, jH, jI, jJ, jK, tfCeLm4, f0, gd10, ux] | refine hX _ _ ?_; clear hX X | clear hX X; refine hX _ _ ?_; clear hX X | clear hX X; clear hX X; refine hX _ _ ?_; clear hX X | intro hlen; unfold maxLen at hlen | apply And.intro; focus (first | omega | assumption | (repeat' apply And.intro) <;> first | omega | assumption)))
    simp only [aPost, Try.results42, aRes_n, aRes_t, aRes_c, pack_one, pack_two]
    have hc20 := (hc19.trans (chg_box (p := p) (m := m9) (lCells p (updN vs 1 s3.mem[1]) bs (s8.mem.set 1 (binN 3 s3.mem[1] x)).length s8.left 255))).trans (chg_box (lCells p (updN vs 1 s3.mem[1]) (updN bs 1 true) (s8.mem.set 1 (binN 3 s3.mem[1] x)).length s8.left 255))
    have hT20 := hT1.chg hc20
    have hnb20 := hnb.trans hc20.nb.symm
    exact leave_lmT hnb20 h11 hT20 rfl ⟨hT20.cut, .inl ⟨_, _, _, _, hev2, hE.put ht s3.mem[1], put32 h32 _ _ ho32, h11.cut hnb20⟩⟩
  · have h10 := h9.box hp (vs' := updN vs 2 s3.mem[1]) (bs' := bs) (left' := s8.left) (how' := 255) h9.l62
    have h11 := h10.box hp (vs' := updN vs 2 s3.mem[1]) (bs' := updN bs 2 true) (left' := s8.left) (how' := 255) h9.l62
    have gd10 : ∀ c, (m9.upd p.did c).get p.did = some c := fun c => get_upd_eq gd9
    simp -implicitDefEqProofs only [↓slp, slb, ↓reduceIte, reduceCtorEq, jA, jB, jC, jD, jE, jF, jG, jH, jI, jJ, jK, tfCeLm4, gd9]
    (repeat (first | refine aSeq fun X hX => ?_ | refine aBlk ?_ | refine aSkip ?_ | (first | refine aExit ?_ | refine aRet ?_); try simp only [slx, ↓reduceIte, Nat.reduceEqDiff, reduceCtorEq] | (first | refine aReg ?_ | refine aDrE ?_ | refine aIf ?_); simp -implicitDefEqProofs only [forall_eq, ↓slp, slb, ↓reduceIte, reduceCtorEq, jA, jB, jC, jD, jE, jF, jG, jH, jI, jJ, jK, tfCeLm4, f0, gd10, ux] | refine hX _ _ ?_; clear hX X | clear hX X; refine hX _ _ ?_; clear hX X | clear hX X; clear hX X; refine hX _ _ ?_; clear hX X | intro hlen; unfold maxLen at hlen | apply And.intro; focus (first | omega | assumption | (repeat' apply And.intro) <;> first | omega | assumption)))
    simp only [aPost, Try.results42, aRes_n, aRes_t, aRes_c, pack_one, pack_two]
    have hc20 := (hc19.trans (chg_box (p := p) (m := m9) (lCells p (updN vs 2 s3.mem[1]) bs (s8.mem.set 1 (binN 3 s3.mem[1] x)).length s8.left 255))).trans (chg_box (lCells p (updN vs 2 s3.mem[1]) (updN bs 2 true) (s8.mem.set 1 (binN 3 s3.mem[1] x)).length s8.left 255))
    have hT20 := hT1.chg hc20
    have hnb20 := hnb.trans hc20.nb.symm
    exact leave_lmT hnb20 h11 hT20 rfl ⟨hT20.cut, .inl ⟨_, _, _, _, hev2, hE.put ht s3.mem[1], put32 h32 _ _ ho32, h11.cut hnb20⟩⟩
  · have h10 := h9.box hp (vs' := updN vs 3 s3.mem[1]) (bs' := bs) (left' := s8.left) (how' := 255) h9.l62
    have h11 := h10.box hp (vs' := updN vs 3 s3.mem[1]) (bs' := updN bs 3 true) (left' := s8.left) (how' := 255) h9.l62
    have gd10 : ∀ c, (m9.upd p.did c).get p.did = some c := fun c => get_upd_eq gd9
    simp -implicitDefEqProofs only [↓slp, slb, ↓reduceIte, reduceCtorEq, jA, jB, jC, jD, jE, jF, jG, jH, jI, jJ, jK, tfCeLm4, gd9]
    (repeat (first | refine aSeq fun X hX => ?_ | refine aBlk ?_ | refine aSkip ?_ | (first | refine aExit ?_ | refine aRet ?_); try simp only [slx, ↓reduceIte, Nat.reduceEqDiff, reduceCtorEq] | (first | refine aReg ?_ | refine aDrE ?_ | refine aIf ?_); simp -implicitDefEqProofs only [forall_eq, ↓slp, slb, ↓reduceIte, reduceCtorEq, jA, jB, jC, jD, jE, jF, jG, jH, jI, jJ, jK, tfCeLm4, f0, gd10, ux] | refine hX _ _ ?_; clear hX X | clear hX X; refine hX _ _ ?_; clear hX X | clear hX X; clear hX X; refine hX _ _ ?_; clear hX X | intro hlen; unfold maxLen at hlen | apply And.intro; focus (first | omega | assumption | (repeat' apply And.intro) <;> first | omega | assumption)))
    simp only [aPost, Try.results42, aRes_n, aRes_t, aRes_c, pack_one, pack_two]
    have hc20 := (hc19.trans (chg_box (p := p) (m := m9) (lCells p (updN vs 3 s3.mem[1]) bs (s8.mem.set 1 (binN 3 s3.mem[1] x)).length s8.left 255))).trans (chg_box (lCells p (updN vs 3 s3.mem[1]) (updN bs 3 true) (s8.mem.set 1 (binN 3 s3.mem[1] x)).length s8.left 255))
    have hT20 := hT1.chg hc20
    have hnb20 := hnb.trans hc20.nb.symm
    exact leave_lmT hnb20 h11 hT20 rfl ⟨hT20.cut, .inl ⟨_, _, _, _, hev2, hE.put ht s3.mem[1], put32 h32 _ _ ho32, h11.cut hnb20⟩⟩
end Go.Proofs.Ytepjjgnkhcjpcaa

/-
  The law's machine: statements, walked.
-/
set_option linter.unusedVariables false
set_option linter.unusedSimpArgs false
namespace Go.Proofs.Ytepjjgnkhcjpcaa
open Nat renaming reduceEqDiff → jA, reduceAdd → jB, reduceMul → jC, reduceLT → jD, reduceLeDiff → jE, reduceBEq → jF, reduceBNe → jG
open Int renaming reduceLE → jH, reduceLT → jI, reduceToNat → jJ, reduceEq → jK
open Go
-- EXX: CE.settle_pv, CE.pure_pv, CE.cells_pv, CE.cs, CS.settle_pv, CS.pure_pv, CS.cells_pv, CS.cs, lCells
set_option maxRecDepth 20000
-- TNAMES: int; uint8; int32; string; bool; metronomelaw23.machine; *metronomelaw23.machine; [4]int32; [4]bool; []bool; []int32; clite.Expr; []clite.Expr; clite.Stmt; []clite.Stmt; []string
set_option linter.defProp false
def tfCeLm5 := And.intro @tfA (And.intro @Ex.settle_pv (And.intro @Ex.pure_pv (And.intro @Ex.cells_pv (And.intro @Ex.cs.eq_1 (And.intro @On.pv.eq_1 (And.intro @Ty.pv.eq_1 (And.intro @Va.settle_pv (And.intro @Va.pure_pv (And.intro @Va.cells_pv (And.intro @Va.cs.eq_1 (And.intro @CE.settle_pv (And.intro @CE.pure_pv (And.intro @CE.cells_pv (And.intro @CE.cs.eq_1 (And.intro @CS.settle_pv (And.intro @CS.pure_pv (And.intro @CS.cells_pv (And.intro @CS.cs.eq_1 @lCells.eq_1))))))))))))))))))

mutual
def CS.made : CS → Prop
  | .mk kind name part e thn els args outs => (e.good ∧ e.locs) ∧ ((kind = 1 ∧ ∃ t, t < 4 ∧ name = nmV t) ∨ (kind = 2 ∧ (name = sFa ∨ name = sFb)) ∨ kind = 3 ∨ kind = 4) ∧
    (CE.goods args ∧ CE.locss args ∧ args.length ≤ 1000000) ∧ (outs = [] ∨ ∃ t, t < 4 ∧ outs = [nmV t]) ∧ CS.mades thn ∧ CS.mades els
def CS.mades : List CS → Prop
  | [] => True
  | s :: l => s.made ∧ CS.mades l
end
theorem CS.mades_mem : ∀ (l : List CS), CS.mades l → ∀ e ∈ l, e.made
  | [], _, e, h => by cases h
  | a :: l, hg, e, h => by
    rcases List.mem_cons.1 h with rfl | h
    · exact hg.1
    · exact CS.mades_mem l hg.2 e h
theorem CS.made_x {x : CS} (h : x.made) : (x.e.good ∧ x.e.locs) ∧ ((x.kind = 1 ∧ ∃ t, t < 4 ∧ x.name = nmV t) ∨ (x.kind = 2 ∧ (x.name = sFa ∨ x.name = sFb)) ∨ x.kind = 3 ∨ x.kind = 4) ∧
    (CE.goods x.args ∧ CE.locss x.args ∧ x.args.length ≤ 1000000) ∧ (x.outs = [] ∨ ∃ t, t < 4 ∧ x.outs = [nmV t]) ∧ CS.mades x.thn ∧ CS.mades x.els := by cases x; exact h
theorem lcall_x (body : List CS) (x : CS) (hx : x.made) (hk : x.kind = 4) (p : LP) (vs : Nat → Int) (bs : Nat → Bool) (s : CM) (env : Env) (m : M) (hp : p.ok) (h : LR p vs bs s 255 m) (hE : EnvR env vs bs) (h32 : ∀ x ∈ env, R32 x.2) :
    ACalls Try.prog 42 [.bp p.did 0, .ag x.cs] m (RetL p m (evCallS body x.name x.part x.args x.outs env s)) := by
  obtain ⟨kind, name, part, e, thn, els, args, outs⟩ := x
  obtain ⟨⟨heg, hel⟩, hkind, ⟨hag, hal, han⟩, hout, hmt, hme2⟩ := hx
  have hk' : kind = 4 := hk
  subst hk'
  exact lcall_any body name part e thn els args outs (fun a ha => ⟨CE.goods_mem _ hag a ha, CE.locss_mem _ hal a ha⟩) han hout p vs bs s env m hp h hE h32
def evSt (body : List CS) (x : CS) (env : Env) (s : CM) : CRn Env := stC unN binN progL (progF body) (evCall body) sS 0 x env s
def evSts (body : List CS) (l : List CS) (env : Env) (s : CM) : CRn Env := stsC unN binN progL (progF body) (evCall body) sS 0 l env s
theorem evSts_nil (body : List CS) (env : Env) (s : CM) : evSts body [] env s = .ok env s := by rw [evSts, stsC]
theorem evSts_cons (body : List CS) (x : CS) (l : List CS) (env : Env) (s : CM) : evSts body (x :: l) env s = (evSt body x env s).bind fun env s => evSts body l env s := by rw [evSts, stsC]; rfl
theorem evSt_eq (body : List CS) (x : CS) (env : Env) (s : CM) : evSt body x env s = (stepC s).bind fun _ m =>
    if x.kind = 1 then (EVL env x.e m).bind fun y m => .ok (env.put x.name y) m
    else if x.kind = 2 then (EVL env x.e m).bind fun y m => (cellC progL sS 0 x.name m).bind fun k m => .ok env { m with mem := m.mem.set k y }
    else if x.kind = 3 then (EVL env x.e m).bind fun y m => if y ≠ 0 then evSts body x.thn env m else evSts body x.els env m
    else if x.kind = 4 then evCallS body x.name x.part x.args x.outs env m
    else .bad 6 m := by
  cases x
  rw [evSt, stC]
  rfl
def DoC (body l : List CS) : Prop := ∀ (p : LP) (vs : Nat → Int) (bs : Nat → Bool) (s : CM) (env : Env) (m : M), p.ok → LR p vs bs s 255 m → EnvR env vs bs → (∀ x ∈ env, R32 x.2) →
  ACalls Try.prog 25 [.bp p.did 0, .sl .no (l.map CS.pv)] m (RetL p m (evSts body l env s))
set_option maxHeartbeats 2000000 in
theorem do_no {p : LP} {vs : Nat → Int} {bs : Nat → Bool} {s : CM} {how : Nat} {m : M} (h : LR p vs bs s how m) (hh : how ≠ 255) (l : List CS) : ACalls Try.prog 25 [.bp p.did 0, .sl .no (l.map CS.pv)] m (fun v m' => m' = m) := by
  have gd := h.gd
  have ch : ((how : Int) == 255) = false := by simp; omega
  refine ACalls.enter (mu := []) ok_mix Try.func25 rfl (by kernel_rfl) (by kernel_rfl) (by simp only [List.length_cons, List.length_nil, Try.ntmps25]; omega) ?_
  (repeat (first | refine aSeq fun X hX => ?_ | refine aBlk ?_ | refine aSkip ?_ | (first | refine aExit ?_ | refine aRet ?_); try simp only [slx, ↓reduceIte, Nat.reduceEqDiff, reduceCtorEq] | (first | refine aReg ?_ | refine aDrE ?_); simp -implicitDefEqProofs only [forall_eq, ↓slp, slb, ↓reduceIte, reduceCtorEq, jA, jB, jC, jD, jE, jF, jG, jH, jI, jJ, jK, tfCeLm5] | refine hX _ _ ?_; clear hX X | clear hX X; refine hX _ _ ?_; clear hX X | clear hX X; clear hX X; refine hX _ _ ?_; clear hX X | intro hlen; unfold maxLen at hlen | apply And.intro; focus (first | omega | assumption | (repeat' apply And.intro) <;> first | omega | assumption)))
  refine aLoop (fun f m' => f 0 = .bp p.did 0 ∧ f 1 = .sl .no (l.map CS.pv) ∧ f 4 = .v (.int .i64 0) ∧ m' = m) (fun _ _ => 0) ⟨rfl, rfl, rfl, rfl⟩ ?_
  rintro f m1 ⟨f0, f1, f4, rfl⟩
  cases c1 : decide ((0 : Int) < (l.length : Int)) with
  | true =>
    (repeat (first | refine aSeq fun X hX => ?_ | refine aBlk ?_ | refine aSkip ?_ | (first | refine aExit ?_ | refine aRet ?_); try simp only [slx, ↓reduceIte, Nat.reduceEqDiff, reduceCtorEq] | (first | refine aReg ?_ | refine aDrE ?_ | refine aIf ?_); simp -implicitDefEqProofs only [forall_eq, ↓slp, slb, ↓reduceIte, reduceCtorEq, jA, jB, jC, jD, jE, jF, jG, jH, jI, jJ, jK, tfCeLm5, f0, f1, f4, c1, gd, ch] | refine hX _ _ ?_; clear hX X | clear hX X; refine hX _ _ ?_; clear hX X | clear hX X; clear hX X; refine hX _ _ ?_; clear hX X | intro hlen; unfold maxLen at hlen | apply And.intro; focus (first | omega | assumption | (repeat' apply And.intro) <;> first | omega | assumption)))
    simp only [aPost, Try.results25, aRes_n, aRes_t, aRes_c, pack_one, pack_two]
    exact leave_same rfl rfl
  | false =>
    (repeat (first | refine aSeq fun X hX => ?_ | refine aBlk ?_ | refine aSkip ?_ | (first | refine aExit ?_ | refine aRet ?_); try simp only [slx, ↓reduceIte, Nat.reduceEqDiff, reduceCtorEq] | (first | refine aReg ?_ | refine aDrE ?_ | refine aIf ?_); simp -implicitDefEqProofs only [forall_eq, ↓slp, slb, ↓reduceIte, reduceCtorEq, jA, jB, jC, jD, jE, jF, jG, jH, jI, jJ, jK, tfCeLm5, f0, f1, f4, c1, gd, ch] | refine hX _ _ ?_; clear hX X | clear hX X; refine hX _ _ ?_; clear hX X | clear hX X; clear hX X; refine hX _ _ ?_; clear hX X | intro hlen; unfold maxLen at hlen | apply And.intro; focus (first | omega | assumption | (repeat' apply And.intro) <;> first | omega | assumption)))
    simp only [aPost, Try.results25, aRes_n, aRes_t, aRes_c, pack_one, pack_two]
    exact leave_same rfl rfl
set_option maxHeartbeats 16000000 in
theorem do_run (body l : List CS) (hS : ∀ x ∈ l, x.made) (hT : ∀ x ∈ l, DoC body x.thn ∧ DoC body x.els) : DoC body l := by
  intro p vs bs s env m hp h hE h32
  obtain ⟨EV, hEV⟩ : ∃ EV, evSts body l env s = EV := ⟨_, rfl⟩
  rw [hEV]
  refine ACalls.enter (mu := []) ok_mix Try.func25 rfl (by kernel_rfl) (by kernel_rfl) (by simp only [List.length_cons, List.length_nil, Try.ntmps25]; omega) ?_
  (repeat (first | refine aSeq fun X hX => ?_ | refine aBlk ?_ | refine aSkip ?_ | (first | refine aExit ?_ | refine aRet ?_); try simp only [slx, ↓reduceIte, Nat.reduceEqDiff, reduceCtorEq] | (first | refine aReg ?_ | refine aDrE ?_); simp -implicitDefEqProofs only [forall_eq, ↓slp, slb, ↓reduceIte, reduceCtorEq, jA, jB, jC, jD, jE, jF, jG, jH, jI, jJ, jK, tfCeLm5] | refine hX _ _ ?_; clear hX X | clear hX X; refine hX _ _ ?_; clear hX X | clear hX X; clear hX X; refine hX _ _ ?_; clear hX X | intro hlen; unfold maxLen at hlen | apply And.intro; focus (first | omega | assumption | (repeat' apply And.intro) <;> first | omega | assumption)))
  obtain ⟨I, hI⟩ : ∃ I : F → M → Prop, ∀ f m', I f m' = (∃ (q how : Nat) (vs' : Nat → Int) (bs' : Nat → Bool) (s' : CM), q ≤ l.length ∧ f 0 = .bp p.did 0 ∧ f 1 = .sl .no (l.map CS.pv) ∧ f 4 = .v (.int .i64 q) ∧ Chg p.ids m m' ∧ LR p vs' bs' s' how m' ∧
    ((∃ env' : Env, how = 255 ∧ EnvR env' vs' bs' ∧ (∀ x ∈ env', R32 x.2) ∧ EV = evSts body (l.drop q) env' s') ∨ ((0 < how ∧ how < 255) ∧ EV = .bad how s'))) := ⟨_, fun _ _ => rfl⟩
  refine aLoop I (fun f m => l.length - numOf (f 4)) ?_ ?_
  · rw [hI]; exact ⟨0, 255, vs, bs, s, by omega, rfl, rfl, rfl, .refl _ _, h, .inl ⟨env, rfl, hE, h32, hEV.symm⟩⟩
  clear hEV
  intro f m1 hrel
  rw [hI] at hrel
  obtain ⟨q, how, vs1, bs1, s1, hql, f0, f1, f4, hc1, h1, hev⟩ := hrel
  have gd1 := h1.gd
  cases c1 : decide ((q : Int) < (l.length : Int)) with
  | false =>
    obtain rfl : q = l.length := by simp at c1; omega
    (repeat (first | refine aSeq fun X hX => ?_ | refine aBlk ?_ | refine aSkip ?_ | (first | refine aExit ?_ | refine aRet ?_); try simp only [slx, ↓reduceIte, Nat.reduceEqDiff, reduceCtorEq] | (first | refine aReg ?_ | refine aDrE ?_ | refine aIf ?_); simp -implicitDefEqProofs only [forall_eq, ↓slp, slb, ↓reduceIte, reduceCtorEq, jA, jB, jC, jD, jE, jF, jG, jH, jI, jJ, jK, tfCeLm5, f0, f1, f4, c1] | refine hX _ _ ?_; clear hX X | clear hX X; refine hX _ _ ?_; clear hX X | clear hX X; clear hX X; refine hX _ _ ?_; clear hX X | intro hlen; unfold maxLen at hlen | apply And.intro; focus (first | omega | assumption | (repeat' apply And.intro) <;> first | omega | assumption)))
    simp only [aPost, Try.results25, aRes_n, aRes_t, aRes_c, pack_one, pack_two]
    rcases hev with ⟨env1, rfl, hE1, h321, hev⟩ | ⟨hw, hev⟩
    · rw [List.drop_length, evSts_nil] at hev
      exact leave_lm h1 hc1 rfl ⟨hc1, .inl ⟨env1, vs1, bs1, s1, hev, hE1, h321, h1⟩⟩
    · exact leave_lm h1 hc1 rfl ⟨hc1, .inr ⟨how, s1, vs1, bs1, hev, hw, h1⟩⟩
  | true =>
  have hlt : q < l.length := by simpa using c1
  rcases hev with ⟨env1, rfl, hE1, h321, hev⟩ | ⟨hw, hev⟩
  rotate_left
  · have ch : ((how : Int) == 255) = false := by simp; omega
    (repeat (first | refine aSeq fun X hX => ?_ | refine aBlk ?_ | refine aSkip ?_ | (first | refine aExit ?_ | refine aRet ?_); try simp only [slx, ↓reduceIte, Nat.reduceEqDiff, reduceCtorEq] | (first | refine aReg ?_ | refine aDrE ?_ | refine aIf ?_); simp -implicitDefEqProofs only [forall_eq, ↓slp, slb, ↓reduceIte, reduceCtorEq, jA, jB, jC, jD, jE, jF, jG, jH, jI, jJ, jK, tfCeLm5, f0, f1, f4, c1, gd1, ch] | refine hX _ _ ?_; clear hX X | clear hX X; refine hX _ _ ?_; clear hX X | clear hX X; clear hX X; refine hX _ _ ?_; clear hX X | intro hlen; unfold maxLen at hlen | apply And.intro; focus (first | omega | assumption | (repeat' apply And.intro) <;> first | omega | assumption)))
    simp only [aPost, Try.results25, aRes_n, aRes_t, aRes_c, pack_one, pack_two]
    exact leave_lm h1 hc1 rfl ⟨hc1, .inr ⟨how, s1, vs1, bs1, hev, hw, h1⟩⟩
  have ga := getD_map CS.pv l q hlt
  have hme : numOf (f 4) = q := by rw [f4]; exact Int.toNat_natCast q
  have hmeas : l.length - (q + 1) < l.length - numOf (f 4) := by omega
  have nxt : ∀ (m2 : M) (how2 : Nat) (vs2 : Nat → Int) (bs2 : Nat → Bool) (s2 : CM) (env2 : Env), Chg p.ids m m2 → LR p vs2 bs2 s2 how2 m2 → ((how2 = 255 ∧ EnvR env2 vs2 bs2 ∧ (∀ x ∈ env2, R32 x.2) ∧ EV = evSts body (l.drop (q + 1)) env2 s2) ∨ ((0 < how2 ∧ how2 < 255) ∧ EV = .bad how2 s2)) → ∀ g : F, g 0 = .bp p.did 0 → g 1 = .sl .no (l.map CS.pv) → g 4 = .v (.int .i64 ((q + 1 : Nat) : Int)) → I g m2 := by
    intro m2 how2 vs2 bs2 s2 env2 hc2 h2 hv g g0 g1 g4
    rw [hI]
    refine ⟨q + 1, how2, vs2, bs2, s2, hlt, g0, g1, g4, hc2, h2, ?_⟩
    rcases hv with ⟨a, b, c, d⟩ | hv
    · exact .inl ⟨env2, a, b, c, d⟩
    · exact .inr hv
  have hmade := hS l[q] (List.getElem_mem hlt)
  obtain ⟨hTt, hTe⟩ := hT l[q] (List.getElem_mem hlt)
  rw [List.drop_eq_getElem_cons hlt, evSts_cons, evSt_eq] at hev
  generalize l[q] = x0 at *
  obtain ⟨⟨heg, hel⟩, hkind, ⟨hag, hal, han⟩, hout, hmt, hme2⟩ := CS.made_x hmade
  have iE := val_all x0.e heg hel
  (repeat (first | refine aSeq fun X hX => ?_ | refine aBlk ?_ | refine aSkip ?_ | (first | refine aExit ?_ | refine aRet ?_); try simp only [slx, ↓reduceIte, Nat.reduceEqDiff, reduceCtorEq] | (first | refine aReg ?_ | refine aDrE ?_); simp -implicitDefEqProofs only [forall_eq, ↓slp, slb, ↓reduceIte, reduceCtorEq, jA, jB, jC, jD, jE, jF, jG, jH, jI, jJ, jK, tfCeLm5, f0, f1, f4, c1, gd1, e255, Int.reduceBEq] | refine hX _ _ ?_; clear hX X | clear hX X; refine hX _ _ ?_; clear hX X | clear hX X; clear hX X; refine hX _ _ ?_; clear hX X | intro hlen; unfold maxLen at hlen | apply And.intro; focus (first | omega | assumption | (repeat' apply And.intro) <;> first | omega | assumption)))
  refine aIf ?_; simp -implicitDefEqProofs only [↓slp, slb, ↓reduceIte, reduceCtorEq, jA, jB, jC, jD, jE, jF, jG, jH, jI, jJ, jK]
  have hi1 : IntKind.i64.wrap ((q : Int) + 1) = ((q + 1 : Nat) : Int) := by rw [wrap64 (by omega)]; omega
  (repeat (first | refine aSeq fun X hX => ?_ | refine aBlk ?_ | refine aSkip ?_ | (first | refine aExit ?_ | refine aRet ?_); try simp only [slx, ↓reduceIte, Nat.reduceEqDiff, reduceCtorEq] | (first | refine aReg ?_ | refine aDrE ?_); simp -implicitDefEqProofs only [forall_eq, ↓slp, slb, ↓reduceIte, reduceCtorEq, jA, jB, jC, jD, jE, jF, jG, jH, jI, jJ, jK, tfCeLm5, f0, f1, f4, ga] | refine hX _ _ ?_; clear hX X | clear hX X; refine hX _ _ ?_; clear hX X | clear hX X; clear hX X; refine hX _ _ ?_; clear hX X | intro hlen; unfold maxLen at hlen | apply And.intro; focus (first | omega | assumption | (repeat' apply And.intro) <;> first | omega | assumption)))
  refine callM (lstep_any hp h1) ?_
  rintro v m2 ⟨hc2, ⟨s2, rfl, hs2, h2⟩ | ⟨rfl, hs2, h2⟩⟩
  rotate_left
  · rw [CRn.bind_bad hs2] at hev
    have hev' : EV = .bad 4 s1 := hev
    simp -implicitDefEqProofs only [↓slp, slb, ↓reduceIte, reduceCtorEq, jA, jB, jC, jD, jE, jF, jG, jH, jI, jJ, jK, tfCeLm5]
    (repeat (first | refine aSeq fun X hX => ?_ | refine aBlk ?_ | refine aSkip ?_ | (first | refine aExit ?_ | refine aRet ?_); try simp only [slx, ↓reduceIte, Nat.reduceEqDiff, reduceCtorEq] | (first | refine aReg ?_ | refine aDrE ?_ | refine aIf ?_); simp -implicitDefEqProofs only [forall_eq, ↓slp, slb, ↓reduceIte, reduceCtorEq, jA, jB, jC, jD, jE, jF, jG, jH, jI, jJ, jK, tfCeLm5] | refine hX _ _ ?_; clear hX X | clear hX X; refine hX _ _ ?_; clear hX X | clear hX X; clear hX X; refine hX _ _ ?_; clear hX X | intro hlen; unfold maxLen at hlen | apply And.intro; focus (first | omega | assumption | (repeat' apply And.intro) <;> first | omega | assumption)))
    simp only [aPost, Try.results25, aRes_n, aRes_t, aRes_c, pack_one, pack_two]
    exact leave_lm h2 (hc1.trans hc2) rfl ⟨hc1.trans hc2, .inr ⟨4, s1, vs1, bs1, hev', by omega, h2⟩⟩
  rw [CRn.bind_ok hs2] at hev
  have hc12 := hc1.trans hc2
  rcases hkind with ⟨hkk, t, ht, hnm⟩ | ⟨hkk, hnm⟩ | hkk | hkk
  · rw [if_pos hkk] at hev
    simp -implicitDefEqProofs only [↓slp, slb, ↓reduceIte, reduceCtorEq, jA, jB, jC, jD, jE, jF, jG, jH, jI, jJ, jK, tfCeLm5, f0]
    (repeat (first | refine aSeq fun X hX => ?_ | refine aBlk ?_ | refine aSkip ?_ | (first | refine aExit ?_ | refine aRet ?_); try simp only [slx, ↓reduceIte, Nat.reduceEqDiff, reduceCtorEq] | (first | refine aReg ?_ | refine aDrE ?_ | refine aIf ?_); simp -implicitDefEqProofs only [forall_eq, ↓slp, slb, ↓reduceIte, reduceCtorEq, jA, jB, jC, jD, jE, jF, jG, jH, jI, jJ, jK, tfCeLm5, f0, hkk, Int.reduceBEq] | refine hX _ _ ?_; clear hX X | clear hX X; refine hX _ _ ?_; clear hX X | clear hX X; clear hX X; refine hX _ _ ?_; clear hX X | intro hlen; unfold maxLen at hlen | apply And.intro; focus (first | omega | assumption | (repeat' apply And.intro) <;> first | omega | assumption)))
    refine callM (iE p vs1 bs1 s2 env1 m2 hp h2 hE1 h321) ?_
    rintro v m3 ⟨hc3, ⟨x, s3, hx, rfl, hx32, h3⟩ | ⟨hw, s3, x, hx, hw255, rfl, hx32, h3⟩⟩
    · rw [CRn.bind_ok hx, CRn.bind, hnm] at hev
      try dsimp only at hev
      have hc13 := hc12.trans hc3
      have gd3 := h3.gd
      have ux := nmV_k t ht
      simp -implicitDefEqProofs only [↓slp, slb, ↓reduceIte, reduceCtorEq, jA, jB, jC, jD, jE, jF, jG, jH, jI, jJ, jK, tfCeLm5, f0, gd3, e255, Int.reduceBEq]
      (repeat (first | refine aSeq fun X hX => ?_ | refine aBlk ?_ | refine aSkip ?_ | (first | refine aExit ?_ | refine aRet ?_); try simp only [slx, ↓reduceIte, Nat.reduceEqDiff, reduceCtorEq] | (first | refine aReg ?_ | refine aDrE ?_ | refine aIf ?_); simp -implicitDefEqProofs only [forall_eq, ↓slp, slb, ↓reduceIte, reduceCtorEq, jA, jB, jC, jD, jE, jF, jG, jH, jI, jJ, jK, tfCeLm5, f0, gd3, e255, hnm, ux, Int.reduceBEq] | refine hX _ _ ?_; clear hX X | clear hX X; refine hX _ _ ?_; clear hX X | clear hX X; clear hX X; refine hX _ _ ?_; clear hX X | intro hlen; unfold maxLen at hlen | apply And.intro; focus (first | omega | assumption | (repeat' apply And.intro) <;> first | omega | assumption)))
      refine ⟨by rw [show (nmV t).size = 2 from rfl]; omega, ?_⟩
      (repeat (first | refine aSeq fun X hX => ?_ | refine aBlk ?_ | refine aSkip ?_ | (first | refine aExit ?_ | refine aRet ?_); try simp only [slx, ↓reduceIte, Nat.reduceEqDiff, reduceCtorEq] | (first | refine aReg ?_ | refine aIf ?_); simp -implicitDefEqProofs only [forall_eq, ↓slp, slb, ↓reduceIte, reduceCtorEq, jA, jB, jC, jD, jE, jF, jG, jH, jI, jJ, jK, tfCeLm5, f0, ux] | refine hX _ _ ?_; clear hX X | clear hX X; refine hX _ _ ?_; clear hX X | clear hX X; clear hX X; refine hX _ _ ?_; clear hX X | intro hlen; unfold maxLen at hlen | apply And.intro; focus (first | omega | assumption | (repeat' apply And.intro) <;> first | omega | assumption)))
      have ht4 : t = 0 ∨ t = 1 ∨ t = 2 ∨ t = 3 := by omega
      rcases ht4 with rfl | rfl | rfl | rfl
      · have h4 := h3.box hp (vs' := updN vs1 0 x) (bs' := bs1) (left' := s3.left) (how' := 255) h3.l62
        have h5 := h4.box hp (vs' := updN vs1 0 x) (bs' := updN bs1 0 true) (left' := s3.left) (how' := 255) h3.l62
        have gd10 : ∀ c, (m3.upd p.did c).get p.did = some c := fun c => get_upd_eq gd3
        simp -implicitDefEqProofs only [↓slp, slb, ↓reduceIte, reduceCtorEq, jA, jB, jC, jD, jE, jF, jG, jH, jI, jJ, jK, tfCeLm5, gd3]
        (repeat (first | refine aSeq fun X hX => ?_ | refine aBlk ?_ | refine aSkip ?_ | (first | refine aExit ?_ | refine aRet ?_); try simp only [slx, ↓reduceIte, Nat.reduceEqDiff, reduceCtorEq] | (first | refine aReg ?_ | refine aDrE ?_ | refine aIf ?_); simp -implicitDefEqProofs only [forall_eq, ↓slp, slb, ↓reduceIte, reduceCtorEq, jA, jB, jC, jD, jE, jF, jG, jH, jI, jJ, jK, tfCeLm5, f0, f4, gd10, ux, hi1] | refine hX _ _ ?_; clear hX X | clear hX X; refine hX _ _ ?_; clear hX X | clear hX X; clear hX X; refine hX _ _ ?_; clear hX X | intro hlen; unfold maxLen at hlen | apply And.intro; focus (first | omega | assumption | (repeat' apply And.intro) <;> first | omega | assumption)))
        exact ⟨nxt _ _ _ _ _ _ ((hc13.trans (chg_box (p := p) (m := m3) (lCells p (updN vs1 0 x) bs1 s3.mem.length s3.left 255))).trans (chg_box (lCells p (updN vs1 0 x) (updN bs1 0 true) s3.mem.length s3.left 255))) h5 (.inl ⟨rfl, hE1.put ht x, put32 h321 _ x hx32, hev⟩) _ f0 f1 rfl, by first | exact hmeas | omega⟩
      · have h4 := h3.box hp (vs' := updN vs1 1 x) (bs' := bs1) (left' := s3.left) (how' := 255) h3.l62
        have h5 := h4.box hp (vs' := updN vs1 1 x) (bs' := updN bs1 1 true) (left' := s3.left) (how' := 255) h3.l62
        have gd10 : ∀ c, (m3.upd p.did c).get p.did = some c := fun c => get_upd_eq gd3
        simp -implicitDefEqProofs only [↓slp, slb, ↓reduceIte, reduceCtorEq, jA, jB, jC, jD, jE, jF, jG, jH, jI, jJ, jK, tfCeLm5, gd3]
        (repeat (first | refine aSeq fun X hX => ?_ | refine aBlk ?_ | refine aSkip ?_ | (first | refine aExit ?_ | refine aRet ?_); try simp only [slx, ↓reduceIte, Nat.reduceEqDiff, reduceCtorEq] | (first | refine aReg ?_ | refine aDrE ?_ | refine aIf ?_); simp -implicitDefEqProofs only [forall_eq, ↓slp, slb, ↓reduceIte, reduceCtorEq, jA, jB, jC, jD, jE, jF, jG, jH, jI, jJ, jK, tfCeLm5, f0, f4, gd10, ux, hi1] | refine hX _ _ ?_; clear hX X | clear hX X; refine hX _ _ ?_; clear hX X | clear hX X; clear hX X; refine hX _ _ ?_; clear hX X | intro hlen; unfold maxLen at hlen | apply And.intro; focus (first | omega | assumption | (repeat' apply And.intro) <;> first | omega | assumption)))
        exact ⟨nxt _ _ _ _ _ _ ((hc13.trans (chg_box (p := p) (m := m3) (lCells p (updN vs1 1 x) bs1 s3.mem.length s3.left 255))).trans (chg_box (lCells p (updN vs1 1 x) (updN bs1 1 true) s3.mem.length s3.left 255))) h5 (.inl ⟨rfl, hE1.put ht x, put32 h321 _ x hx32, hev⟩) _ f0 f1 rfl, by first | exact hmeas | omega⟩
      · have h4 := h3.box hp (vs' := updN vs1 2 x) (bs' := bs1) (left' := s3.left) (how' := 255) h3.l62
        have h5 := h4.box hp (vs' := updN vs1 2 x) (bs' := updN bs1 2 true) (left' := s3.left) (how' := 255) h3.l62
        have gd10 : ∀ c, (m3.upd p.did c).get p.did = some c := fun c => get_upd_eq gd3
        simp -implicitDefEqProofs only [↓slp, slb, ↓reduceIte, reduceCtorEq, jA, jB, jC, jD, jE, jF, jG, jH, jI, jJ, jK, tfCeLm5, gd3]
        (repeat (first | refine aSeq fun X hX => ?_ | refine aBlk ?_ | refine aSkip ?_ | (first | refine aExit ?_ | refine aRet ?_); try simp only [slx, ↓reduceIte, Nat.reduceEqDiff, reduceCtorEq] | (first | refine aReg ?_ | refine aDrE ?_ | refine aIf ?_); simp -implicitDefEqProofs only [forall_eq, ↓slp, slb, ↓reduceIte, reduceCtorEq, jA, jB, jC, jD, jE, jF, jG, jH, jI, jJ, jK, tfCeLm5, f0, f4, gd10, ux, hi1] | refine hX _ _ ?_; clear hX X | clear hX X; refine hX _ _ ?_; clear hX X | clear hX X; clear hX X; refine hX _ _ ?_; clear hX X | intro hlen; unfold maxLen at hlen | apply And.intro; focus (first | omega | assumption | (repeat' apply And.intro) <;> first | omega | assumption)))
        exact ⟨nxt _ _ _ _ _ _ ((hc13.trans (chg_box (p := p) (m := m3) (lCells p (updN vs1 2 x) bs1 s3.mem.length s3.left 255))).trans (chg_box (lCells p (updN vs1 2 x) (updN bs1 2 true) s3.mem.length s3.left 255))) h5 (.inl ⟨rfl, hE1.put ht x, put32 h321 _ x hx32, hev⟩) _ f0 f1 rfl, by first | exact hmeas | omega⟩
      · have h4 := h3.box hp (vs' := updN vs1 3 x) (bs' := bs1) (left' := s3.left) (how' := 255) h3.l62
        have h5 := h4.box hp (vs' := updN vs1 3 x) (bs' := updN bs1 3 true) (left' := s3.left) (how' := 255) h3.l62
        have gd10 : ∀ c, (m3.upd p.did c).get p.did = some c := fun c => get_upd_eq gd3
        simp -implicitDefEqProofs only [↓slp, slb, ↓reduceIte, reduceCtorEq, jA, jB, jC, jD, jE, jF, jG, jH, jI, jJ, jK, tfCeLm5, gd3]
        (repeat (first | refine aSeq fun X hX => ?_ | refine aBlk ?_ | refine aSkip ?_ | (first | refine aExit ?_ | refine aRet ?_); try simp only [slx, ↓reduceIte, Nat.reduceEqDiff, reduceCtorEq] | (first | refine aReg ?_ | refine aDrE ?_ | refine aIf ?_); simp -implicitDefEqProofs only [forall_eq, ↓slp, slb, ↓reduceIte, reduceCtorEq, jA, jB, jC, jD, jE, jF, jG, jH, jI, jJ, jK, tfCeLm5, f0, f4, gd10, ux, hi1] | refine hX _ _ ?_; clear hX X | clear hX X; refine hX _ _ ?_; clear hX X | clear hX X; clear hX X; refine hX _ _ ?_; clear hX X | intro hlen; unfold maxLen at hlen | apply And.intro; focus (first | omega | assumption | (repeat' apply And.intro) <;> first | omega | assumption)))
        exact ⟨nxt _ _ _ _ _ _ ((hc13.trans (chg_box (p := p) (m := m3) (lCells p (updN vs1 3 x) bs1 s3.mem.length s3.left 255))).trans (chg_box (lCells p (updN vs1 3 x) (updN bs1 3 true) s3.mem.length s3.left 255))) h5 (.inl ⟨rfl, hE1.put ht x, put32 h321 _ x hx32, hev⟩) _ f0 f1 rfl, by first | exact hmeas | omega⟩
    · rw [CRn.bind_bad hx] at hev
      have hc13 := hc12.trans hc3
      have gd3 := h3.gd
      have ch : ((hw : Int) == 255) = false := by simp; omega
      simp -implicitDefEqProofs only [↓slp, slb, ↓reduceIte, reduceCtorEq, jA, jB, jC, jD, jE, jF, jG, jH, jI, jJ, jK, tfCeLm5, f0]
      (repeat (first | refine aSeq fun X hX => ?_ | refine aBlk ?_ | refine aSkip ?_ | (first | refine aExit ?_ | refine aRet ?_); try simp only [slx, ↓reduceIte, Nat.reduceEqDiff, reduceCtorEq] | (first | refine aReg ?_ | refine aDrE ?_ | refine aIf ?_); simp -implicitDefEqProofs only [forall_eq, ↓slp, slb, ↓reduceIte, reduceCtorEq, jA, jB, jC, jD, jE, jF, jG, jH, jI, jJ, jK, tfCeLm5, f0, f4, gd3, ch, hi1] | refine hX _ _ ?_; clear hX X | clear hX X; refine hX _ _ ?_; clear hX X | clear hX X; clear hX X; refine hX _ _ ?_; clear hX X | intro hlen; unfold maxLen at hlen | apply And.intro; focus (first | omega | assumption | (repeat' apply And.intro) <;> first | omega | assumption)))
      exact ⟨nxt _ _ _ _ _ env1 hc13 h3 (.inr ⟨hw255, hev⟩) _ f0 f1 rfl, by first | exact hmeas | omega⟩
  · rw [if_neg (by omega), if_pos hkk] at hev
    obtain ⟨k, hlk⟩ : ∃ k : Nat, lcell x0.name = (k : Int) := by
      rcases hnm with h | h <;> rw [h]
      · exact ⟨0, by simp [lcell]⟩
      · exact ⟨3, by simp [lcell, sFa, sFb, ByteArray.toList_eq]⟩
    simp -implicitDefEqProofs only [↓slp, slb, ↓reduceIte, reduceCtorEq, jA, jB, jC, jD, jE, jF, jG, jH, jI, jJ, jK, tfCeLm5, f0]
    (repeat (first | refine aSeq fun X hX => ?_ | refine aBlk ?_ | refine aSkip ?_ | (first | refine aExit ?_ | refine aRet ?_); try simp only [slx, ↓reduceIte, Nat.reduceEqDiff, reduceCtorEq] | (first | refine aReg ?_ | refine aDrE ?_ | refine aIf ?_); simp -implicitDefEqProofs only [forall_eq, ↓slp, slb, ↓reduceIte, reduceCtorEq, jA, jB, jC, jD, jE, jF, jG, jH, jI, jJ, jK, tfCeLm5, f0, hkk, Int.reduceBEq] | refine hX _ _ ?_; clear hX X | clear hX X; refine hX _ _ ?_; clear hX X | clear hX X; clear hX X; refine hX _ _ ?_; clear hX X | intro hlen; unfold maxLen at hlen | apply And.intro; focus (first | omega | assumption | (repeat' apply And.intro) <;> first | omega | assumption)))
    refine callM (iE p vs1 bs1 s2 env1 m2 hp h2 hE1 h321) ?_
    rintro v m3 ⟨hc3, ⟨x, s3, hx, rfl, hx32, h3⟩ | ⟨hw, s3, x, hx, hw255, rfl, hx32, h3⟩⟩
    · rw [CRn.bind_ok hx, cell0, hlk] at hev
      have hc13 := hc12.trans hc3
      have gd3 := h3.gd
      simp -implicitDefEqProofs only [↓slp, slb, ↓reduceIte, reduceCtorEq, jA, jB, jC, jD, jE, jF, jG, jH, jI, jJ, jK, tfCeLm5, f0]
      (repeat (first | refine aSeq fun X hX => ?_ | refine aBlk ?_ | refine aSkip ?_ | (first | refine aExit ?_ | refine aRet ?_); try simp only [slx, ↓reduceIte, Nat.reduceEqDiff, reduceCtorEq] | (first | refine aReg ?_ | refine aDrE ?_ | refine aIf ?_); simp -implicitDefEqProofs only [forall_eq, ↓slp, slb, ↓reduceIte, reduceCtorEq, jA, jB, jC, jD, jE, jF, jG, jH, jI, jJ, jK, tfCeLm5, f0] | refine hX _ _ ?_; clear hX X | clear hX X; refine hX _ _ ?_; clear hX X | clear hX X; clear hX X; refine hX _ _ ?_; clear hX X | intro hlen; unfold maxLen at hlen | apply And.intro; focus (first | omega | assumption | (repeat' apply And.intro) <;> first | omega | assumption)))
      refine callE (lcell_any x0.name _) ?_
      rw [hlk]
      cases cg : decide ((k : Int) ≥ (s3.mem.length : Int)) with
      | true =>
        have hge : (k : Int) ≥ (s3.mem.length : Int) := by simpa using cg
        rw [if_pos (.inr hge)] at hev
        have hev' : EV = .bad 2 s3 := hev
        simp -implicitDefEqProofs only [↓slp, slb, ↓reduceIte, reduceCtorEq, jA, jB, jC, jD, jE, jF, jG, jH, jI, jJ, jK, tfCeLm5, f0]
        (repeat (first | refine aSeq fun X hX => ?_ | refine aBlk ?_ | refine aSkip ?_ | (first | refine aExit ?_ | refine aRet ?_); try simp only [slx, ↓reduceIte, Nat.reduceEqDiff, reduceCtorEq] | (first | refine aReg ?_ | refine aDrE ?_ | refine aIf ?_); simp -implicitDefEqProofs only [forall_eq, ↓slp, slb, ↓reduceIte, reduceCtorEq, jA, jB, jC, jD, jE, jF, jG, jH, jI, jJ, jK, tfCeLm5, f0, gd3, e255, cg, Int.reduceBEq] | refine hX _ _ ?_; clear hX X | clear hX X; refine hX _ _ ?_; clear hX X | clear hX X; clear hX X; refine hX _ _ ?_; clear hX X | intro hlen; unfold maxLen at hlen | apply And.intro; focus (first | omega | assumption | (repeat' apply And.intro) <;> first | omega | assumption)))
        refine callM (lend_any hp h3 2) ?_
        rintro v m4 ⟨rfl, hc4, h4⟩
        have gd4 := h4.gd
        have e2n : ((2 : Nat) : Int) = 2 := rfl
        simp -implicitDefEqProofs only [↓slp, slb, ↓reduceIte, reduceCtorEq, jA, jB, jC, jD, jE, jF, jG, jH, jI, jJ, jK, tfCeLm5, f0]
        (repeat (first | refine aSeq fun X hX => ?_ | refine aBlk ?_ | refine aSkip ?_ | (first | refine aExit ?_ | refine aRet ?_); try simp only [slx, ↓reduceIte, Nat.reduceEqDiff, reduceCtorEq] | (first | refine aReg ?_ | refine aDrE ?_ | refine aIf ?_); simp -implicitDefEqProofs only [forall_eq, ↓slp, slb, ↓reduceIte, reduceCtorEq, jA, jB, jC, jD, jE, jF, jG, jH, jI, jJ, jK, tfCeLm5, f0, f4, gd4, e2n, hi1, Int.reduceBEq] | refine hX _ _ ?_; clear hX X | clear hX X; refine hX _ _ ?_; clear hX X | clear hX X; clear hX X; refine hX _ _ ?_; clear hX X | intro hlen; unfold maxLen at hlen | apply And.intro; focus (first | omega | assumption | (repeat' apply And.intro) <;> first | omega | assumption)))
        exact ⟨nxt _ _ _ _ _ env1 (hc13.trans hc4) h4 (.inr ⟨by omega, hev'⟩) _ f0 f1 rfl, by first | exact hmeas | omega⟩
      | false =>
        have hlt2 : ¬ ((k : Int) ≥ (s3.mem.length : Int)) := by simpa using cg
        have hkl : k < s3.mem.length := by omega
        have hkt : k < s3.tch.length := by rw [h3.tlen]; exact hkl
        rw [if_neg (by omega), Int.toNat_natCast] at hev
        have gt := h3.gt
        have gm := h3.gm
        have h4 := h3.store hp k x hx32
        have h5 := h4.touch hp k
        have hltt : (tchB s3.tch).length = s3.mem.length := by simp [h3.tlen]
        have hlm : (memB s3.mem).length = s3.mem.length := by simp
        have hset : List.take (0 + k * 1) (memB s3.mem) ++ [PV.v (.int .i32 x)] ++ List.drop (0 + k * 1 + 1) (memB s3.mem) = memB (s3.mem.set k x) := by
          rw [List.set_eq_take_append_cons_drop, if_pos hkl]
          simp
        have hset2 : List.take (0 + k * 1) (tchB s3.tch) ++ [PV.v (.bool true)] ++ List.drop (0 + k * 1 + 1) (tchB s3.tch) = tchB (s3.tch.set k true) := by
          rw [List.set_eq_take_append_cons_drop, if_pos hkt]
          simp
        have gd2 : ∀ c, (m3.upd p.dm c).get p.did = some _ := fun c => (get_upd_ne hp.n1).trans gd3
        have gt2 : ∀ c, (m3.upd p.dm c).get p.dt = some _ := fun c => (get_upd_ne (Ne.symm hp.n3)).trans gt
        simp -implicitDefEqProofs only [↓slp, slb, ↓reduceIte, reduceCtorEq, jA, jB, jC, jD, jE, jF, jG, jH, jI, jJ, jK, tfCeLm5, f0]
        (repeat (first | refine aSeq fun X hX => ?_ | refine aBlk ?_ | refine aSkip ?_ | (first | refine aExit ?_ | refine aRet ?_); try simp only [slx, ↓reduceIte, Nat.reduceEqDiff, reduceCtorEq] | (first | refine aReg ?_ | refine aDrE ?_ | refine aIf ?_); simp -implicitDefEqProofs only [forall_eq, ↓slp, slb, ↓reduceIte, reduceCtorEq, jA, jB, jC, jD, jE, jF, jG, jH, jI, jJ, jK, tfCeLm5, f0, gd3, e255, cg, gm, hlm, Int.reduceBEq] | refine hX _ _ ?_; clear hX X | clear hX X; refine hX _ _ ?_; clear hX X | clear hX X; clear hX X; refine hX _ _ ?_; clear hX X | intro hlen; unfold maxLen at hlen | apply And.intro; focus (first | omega | assumption | (repeat' apply And.intro) <;> first | omega | assumption)))
        rw [hset]
        simp -implicitDefEqProofs only [↓slp, slb, ↓reduceIte, reduceCtorEq, jA, jB, jC, jD, jE, jF, jG, jH, jI, jJ, jK, tfCeLm5, gd2, gt2, hltt]
        refine ⟨hkl, by omega, ?_⟩
        rw [hset2]
        (repeat (first | refine aSeq fun X hX => ?_ | refine aBlk ?_ | refine aSkip ?_ | (first | refine aExit ?_ | refine aRet ?_); try simp only [slx, ↓reduceIte, Nat.reduceEqDiff, reduceCtorEq] | (first | refine aReg ?_ | refine aDrE ?_ | refine aIf ?_); simp -implicitDefEqProofs only [forall_eq, ↓slp, slb, ↓reduceIte, reduceCtorEq, jA, jB, jC, jD, jE, jF, jG, jH, jI, jJ, jK, tfCeLm5, f0, f4, hi1] | refine hX _ _ ?_; clear hX X | clear hX X; refine hX _ _ ?_; clear hX X | clear hX X; clear hX X; refine hX _ _ ?_; clear hX X | intro hlen; unfold maxLen at hlen | apply And.intro; focus (first | omega | assumption | (repeat' apply And.intro) <;> first | omega | assumption)))
        exact ⟨nxt _ _ _ _ _ env1 ((hc13.trans (chg_m _)).trans (chg_t _)) h5 (.inl ⟨rfl, hE1, h321, hev⟩) _ f0 f1 rfl, by first | exact hmeas | omega⟩
    · rw [CRn.bind_bad hx] at hev
      have hc13 := hc12.trans hc3
      have gd3 := h3.gd
      have ch : ((hw : Int) == 255) = false := by simp; omega
      simp -implicitDefEqProofs only [↓slp, slb, ↓reduceIte, reduceCtorEq, jA, jB, jC, jD, jE, jF, jG, jH, jI, jJ, jK, tfCeLm5, f0]
      (repeat (first | refine aSeq fun X hX => ?_ | refine aBlk ?_ | refine aSkip ?_ | (first | refine aExit ?_ | refine aRet ?_); try simp only [slx, ↓reduceIte, Nat.reduceEqDiff, reduceCtorEq] | (first | refine aReg ?_ | refine aDrE ?_ | refine aIf ?_); simp -implicitDefEqProofs only [forall_eq, ↓slp, slb, ↓reduceIte, reduceCtorEq, jA, jB, jC, jD, jE, jF, jG, jH, jI, jJ, jK, tfCeLm5, f0] | refine hX _ _ ?_; clear hX X | clear hX X; refine hX _ _ ?_; clear hX X | clear hX X; clear hX X; refine hX _ _ ?_; clear hX X | intro hlen; unfold maxLen at hlen | apply And.intro; focus (first | omega | assumption | (repeat' apply And.intro) <;> first | omega | assumption)))
      refine callE (lcell_any x0.name _) ?_
      simp -implicitDefEqProofs only [↓slp, slb, ↓reduceIte, reduceCtorEq, jA, jB, jC, jD, jE, jF, jG, jH, jI, jJ, jK, tfCeLm5, f0]
      (repeat (first | refine aSeq fun X hX => ?_ | refine aBlk ?_ | refine aSkip ?_ | (first | refine aExit ?_ | refine aRet ?_); try simp only [slx, ↓reduceIte, Nat.reduceEqDiff, reduceCtorEq] | (first | refine aReg ?_ | refine aDrE ?_ | refine aIf ?_); simp -implicitDefEqProofs only [forall_eq, ↓slp, slb, ↓reduceIte, reduceCtorEq, jA, jB, jC, jD, jE, jF, jG, jH, jI, jJ, jK, tfCeLm5, f0, f4, gd3, ch, hi1] | refine hX _ _ ?_; clear hX X | clear hX X; refine hX _ _ ?_; clear hX X | clear hX X; clear hX X; refine hX _ _ ?_; clear hX X | intro hlen; unfold maxLen at hlen | apply And.intro; focus (first | omega | assumption | (repeat' apply And.intro) <;> first | omega | assumption)))
      exact ⟨nxt _ _ _ _ _ env1 hc13 h3 (.inr ⟨hw255, hev⟩) _ f0 f1 rfl, by first | exact hmeas | omega⟩
  · rw [if_neg (by omega), if_neg (by omega), if_pos hkk] at hev
    simp -implicitDefEqProofs only [↓slp, slb, ↓reduceIte, reduceCtorEq, jA, jB, jC, jD, jE, jF, jG, jH, jI, jJ, jK, tfCeLm5, f0]
    (repeat (first | refine aSeq fun X hX => ?_ | refine aBlk ?_ | refine aSkip ?_ | (first | refine aExit ?_ | refine aRet ?_); try simp only [slx, ↓reduceIte, Nat.reduceEqDiff, reduceCtorEq] | (first | refine aReg ?_ | refine aDrE ?_ | refine aIf ?_); simp -implicitDefEqProofs only [forall_eq, ↓slp, slb, ↓reduceIte, reduceCtorEq, jA, jB, jC, jD, jE, jF, jG, jH, jI, jJ, jK, tfCeLm5, f0, hkk, Int.reduceBEq] | refine hX _ _ ?_; clear hX X | clear hX X; refine hX _ _ ?_; clear hX X | clear hX X; clear hX X; refine hX _ _ ?_; clear hX X | intro hlen; unfold maxLen at hlen | apply And.intro; focus (first | omega | assumption | (repeat' apply And.intro) <;> first | omega | assumption)))
    refine callM (iE p vs1 bs1 s2 env1 m2 hp h2 hE1 h321) ?_
    rintro v m3 ⟨hc3, ⟨x, s3, hx, rfl, hx32, h3⟩ | ⟨hw, s3, x, hx, hw255, rfl, hx32, h3⟩⟩
    · rw [CRn.bind_ok hx] at hev
      have hc13 := hc12.trans hc3
      cases cx : (x == 0) with
      | true =>
        have hx0 : x = 0 := by simpa using cx
        rw [if_neg (by omega)] at hev
        simp -implicitDefEqProofs only [↓slp, slb, ↓reduceIte, reduceCtorEq, jA, jB, jC, jD, jE, jF, jG, jH, jI, jJ, jK, tfCeLm5, f0]
        (repeat (first | refine aSeq fun X hX => ?_ | refine aBlk ?_ | refine aSkip ?_ | (first | refine aExit ?_ | refine aRet ?_); try simp only [slx, ↓reduceIte, Nat.reduceEqDiff, reduceCtorEq] | (first | refine aReg ?_ | refine aDrE ?_ | refine aIf ?_); simp -implicitDefEqProofs only [forall_eq, ↓slp, slb, ↓reduceIte, reduceCtorEq, jA, jB, jC, jD, jE, jF, jG, jH, jI, jJ, jK, tfCeLm5, f0, cx] | refine hX _ _ ?_; clear hX X | clear hX X; refine hX _ _ ?_; clear hX X | clear hX X; clear hX X; refine hX _ _ ?_; clear hX X | intro hlen; unfold maxLen at hlen | apply And.intro; focus (first | omega | assumption | (repeat' apply And.intro) <;> first | omega | assumption)))
        refine callM (hTe p vs1 bs1 s3 env1 m3 hp h3 hE1 h321) ?_
        rintro v m4 ⟨hc4, ⟨env4, vs4, bs4, s4, hr4, hE4, h324, h4⟩ | ⟨hw4, s4, vs4, bs4, hr4, hw255, h4⟩⟩
        · rw [CRn.bind_ok hr4] at hev
          simp -implicitDefEqProofs only [↓slp, slb, ↓reduceIte, reduceCtorEq, jA, jB, jC, jD, jE, jF, jG, jH, jI, jJ, jK, tfCeLm5, f0]
          (repeat (first | refine aSeq fun X hX => ?_ | refine aBlk ?_ | refine aSkip ?_ | (first | refine aExit ?_ | refine aRet ?_); try simp only [slx, ↓reduceIte, Nat.reduceEqDiff, reduceCtorEq] | (first | refine aReg ?_ | refine aDrE ?_ | refine aIf ?_); simp -implicitDefEqProofs only [forall_eq, ↓slp, slb, ↓reduceIte, reduceCtorEq, jA, jB, jC, jD, jE, jF, jG, jH, jI, jJ, jK, tfCeLm5, f0, f4, hi1] | refine hX _ _ ?_; clear hX X | clear hX X; refine hX _ _ ?_; clear hX X | clear hX X; clear hX X; refine hX _ _ ?_; clear hX X | intro hlen; unfold maxLen at hlen | apply And.intro; focus (first | omega | assumption | (repeat' apply And.intro) <;> first | omega | assumption)))
          exact ⟨nxt _ _ _ _ _ _ (hc13.trans hc4) h4 (.inl ⟨rfl, hE4, h324, hev⟩) _ f0 f1 rfl, by first | exact hmeas | omega⟩
        · rw [CRn.bind_bad hr4] at hev
          simp -implicitDefEqProofs only [↓slp, slb, ↓reduceIte, reduceCtorEq, jA, jB, jC, jD, jE, jF, jG, jH, jI, jJ, jK, tfCeLm5, f0]
          (repeat (first | refine aSeq fun X hX => ?_ | refine aBlk ?_ | refine aSkip ?_ | (first | refine aExit ?_ | refine aRet ?_); try simp only [slx, ↓reduceIte, Nat.reduceEqDiff, reduceCtorEq] | (first | refine aReg ?_ | refine aDrE ?_ | refine aIf ?_); simp -implicitDefEqProofs only [forall_eq, ↓slp, slb, ↓reduceIte, reduceCtorEq, jA, jB, jC, jD, jE, jF, jG, jH, jI, jJ, jK, tfCeLm5, f0, f4, hi1] | refine hX _ _ ?_; clear hX X | clear hX X; refine hX _ _ ?_; clear hX X | clear hX X; clear hX X; refine hX _ _ ?_; clear hX X | intro hlen; unfold maxLen at hlen | apply And.intro; focus (first | omega | assumption | (repeat' apply And.intro) <;> first | omega | assumption)))
          exact ⟨nxt _ _ _ _ _ env1 (hc13.trans hc4) h4 (.inr ⟨hw255, hev⟩) _ f0 f1 rfl, by first | exact hmeas | omega⟩
      | false =>
        have hx0 : x ≠ 0 := by simpa using cx
        rw [if_pos hx0] at hev
        simp -implicitDefEqProofs only [↓slp, slb, ↓reduceIte, reduceCtorEq, jA, jB, jC, jD, jE, jF, jG, jH, jI, jJ, jK, tfCeLm5, f0]
        (repeat (first | refine aSeq fun X hX => ?_ | refine aBlk ?_ | refine aSkip ?_ | (first | refine aExit ?_ | refine aRet ?_); try simp only [slx, ↓reduceIte, Nat.reduceEqDiff, reduceCtorEq] | (first | refine aReg ?_ | refine aDrE ?_ | refine aIf ?_); simp -implicitDefEqProofs only [forall_eq, ↓slp, slb, ↓reduceIte, reduceCtorEq, jA, jB, jC, jD, jE, jF, jG, jH, jI, jJ, jK, tfCeLm5, f0, cx] | refine hX _ _ ?_; clear hX X | clear hX X; refine hX _ _ ?_; clear hX X | clear hX X; clear hX X; refine hX _ _ ?_; clear hX X | intro hlen; unfold maxLen at hlen | apply And.intro; focus (first | omega | assumption | (repeat' apply And.intro) <;> first | omega | assumption)))
        refine callM (hTt p vs1 bs1 s3 env1 m3 hp h3 hE1 h321) ?_
        rintro v m4 ⟨hc4, ⟨env4, vs4, bs4, s4, hr4, hE4, h324, h4⟩ | ⟨hw4, s4, vs4, bs4, hr4, hw255, h4⟩⟩
        · rw [CRn.bind_ok hr4] at hev
          simp -implicitDefEqProofs only [↓slp, slb, ↓reduceIte, reduceCtorEq, jA, jB, jC, jD, jE, jF, jG, jH, jI, jJ, jK, tfCeLm5, f0]
          (repeat (first | refine aSeq fun X hX => ?_ | refine aBlk ?_ | refine aSkip ?_ | (first | refine aExit ?_ | refine aRet ?_); try simp only [slx, ↓reduceIte, Nat.reduceEqDiff, reduceCtorEq] | (first | refine aReg ?_ | refine aDrE ?_ | refine aIf ?_); simp -implicitDefEqProofs only [forall_eq, ↓slp, slb, ↓reduceIte, reduceCtorEq, jA, jB, jC, jD, jE, jF, jG, jH, jI, jJ, jK, tfCeLm5, f0, f4, hi1] | refine hX _ _ ?_; clear hX X | clear hX X; refine hX _ _ ?_; clear hX X | clear hX X; clear hX X; refine hX _ _ ?_; clear hX X | intro hlen; unfold maxLen at hlen | apply And.intro; focus (first | omega | assumption | (repeat' apply And.intro) <;> first | omega | assumption)))
          exact ⟨nxt _ _ _ _ _ _ (hc13.trans hc4) h4 (.inl ⟨rfl, hE4, h324, hev⟩) _ f0 f1 rfl, by first | exact hmeas | omega⟩
        · rw [CRn.bind_bad hr4] at hev
          simp -implicitDefEqProofs only [↓slp, slb, ↓reduceIte, reduceCtorEq, jA, jB, jC, jD, jE, jF, jG, jH, jI, jJ, jK, tfCeLm5, f0]
          (repeat (first | refine aSeq fun X hX => ?_ | refine aBlk ?_ | refine aSkip ?_ | (first | refine aExit ?_ | refine aRet ?_); try simp only [slx, ↓reduceIte, Nat.reduceEqDiff, reduceCtorEq] | (first | refine aReg ?_ | refine aDrE ?_ | refine aIf ?_); simp -implicitDefEqProofs only [forall_eq, ↓slp, slb, ↓reduceIte, reduceCtorEq, jA, jB, jC, jD, jE, jF, jG, jH, jI, jJ, jK, tfCeLm5, f0, f4, hi1] | refine hX _ _ ?_; clear hX X | clear hX X; refine hX _ _ ?_; clear hX X | clear hX X; clear hX X; refine hX _ _ ?_; clear hX X | intro hlen; unfold maxLen at hlen | apply And.intro; focus (first | omega | assumption | (repeat' apply And.intro) <;> first | omega | assumption)))
          exact ⟨nxt _ _ _ _ _ env1 (hc13.trans hc4) h4 (.inr ⟨hw255, hev⟩) _ f0 f1 rfl, by first | exact hmeas | omega⟩
    · rw [CRn.bind_bad hx] at hev
      have hc13 := hc12.trans hc3
      cases cx : (x == 0) with
      | true =>
        simp -implicitDefEqProofs only [↓slp, slb, ↓reduceIte, reduceCtorEq, jA, jB, jC, jD, jE, jF, jG, jH, jI, jJ, jK, tfCeLm5, f0]
        (repeat (first | refine aSeq fun X hX => ?_ | refine aBlk ?_ | refine aSkip ?_ | (first | refine aExit ?_ | refine aRet ?_); try simp only [slx, ↓reduceIte, Nat.reduceEqDiff, reduceCtorEq] | (first | refine aReg ?_ | refine aDrE ?_ | refine aIf ?_); simp -implicitDefEqProofs only [forall_eq, ↓slp, slb, ↓reduceIte, reduceCtorEq, jA, jB, jC, jD, jE, jF, jG, jH, jI, jJ, jK, tfCeLm5, f0, cx] | refine hX _ _ ?_; clear hX X | clear hX X; refine hX _ _ ?_; clear hX X | clear hX X; clear hX X; refine hX _ _ ?_; clear hX X | intro hlen; unfold maxLen at hlen | apply And.intro; focus (first | omega | assumption | (repeat' apply And.intro) <;> first | omega | assumption)))
        refine callM (do_no h3 (by omega) x0.els) ?_
        rintro v m4 rfl
        simp -implicitDefEqProofs only [↓slp, slb, ↓reduceIte, reduceCtorEq, jA, jB, jC, jD, jE, jF, jG, jH, jI, jJ, jK, tfCeLm5, f0]
        (repeat (first | refine aSeq fun X hX => ?_ | refine aBlk ?_ | refine aSkip ?_ | (first | refine aExit ?_ | refine aRet ?_); try simp only [slx, ↓reduceIte, Nat.reduceEqDiff, reduceCtorEq] | (first | refine aReg ?_ | refine aDrE ?_ | refine aIf ?_); simp -implicitDefEqProofs only [forall_eq, ↓slp, slb, ↓reduceIte, reduceCtorEq, jA, jB, jC, jD, jE, jF, jG, jH, jI, jJ, jK, tfCeLm5, f0, f4, hi1] | refine hX _ _ ?_; clear hX X | clear hX X; refine hX _ _ ?_; clear hX X | clear hX X; clear hX X; refine hX _ _ ?_; clear hX X | intro hlen; unfold maxLen at hlen | apply And.intro; focus (first | omega | assumption | (repeat' apply And.intro) <;> first | omega | assumption)))
        exact ⟨nxt _ _ _ _ _ env1 hc13 h3 (.inr ⟨hw255, hev⟩) _ f0 f1 rfl, by first | exact hmeas | omega⟩
      | false =>
        simp -implicitDefEqProofs only [↓slp, slb, ↓reduceIte, reduceCtorEq, jA, jB, jC, jD, jE, jF, jG, jH, jI, jJ, jK, tfCeLm5, f0]
        (repeat (first | refine aSeq fun X hX => ?_ | refine aBlk ?_ | refine aSkip ?_ | (first | refine aExit ?_ | refine aRet ?_); try simp only [slx, ↓reduceIte, Nat.reduceEqDiff, reduceCtorEq] | (first | refine aReg ?_ | refine aDrE ?_ | refine aIf ?_); simp -implicitDefEqProofs only [forall_eq, ↓slp, slb, ↓reduceIte, reduceCtorEq, jA, jB, jC, jD, jE, jF, jG, jH, jI, jJ, jK, tfCeLm5, f0, cx] | refine hX _ _ ?_; clear hX X | clear hX X; refine hX _ _ ?_; clear hX X | clear hX X; clear hX X; refine hX _ _ ?_; clear hX X | intro hlen; unfold maxLen at hlen | apply And.intro; focus (first | omega | assumption | (repeat' apply And.intro) <;> first | omega | assumption)))
        refine callM (do_no h3 (by omega) x0.thn) ?_
        rintro v m4 rfl
        simp -implicitDefEqProofs only [↓slp, slb, ↓reduceIte, reduceCtorEq, jA, jB, jC, jD, jE, jF, jG, jH, jI, jJ, jK, tfCeLm5, f0]
        (repeat (first | refine aSeq fun X hX => ?_ | refine aBlk ?_ | refine aSkip ?_ | (first | refine aExit ?_ | refine aRet ?_); try simp only [slx, ↓reduceIte, Nat.reduceEqDiff, reduceCtorEq] | (first | refine aReg ?_ | refine aDrE ?_ | refine aIf ?_); simp -implicitDefEqProofs only [forall_eq, ↓slp, slb, ↓reduceIte, reduceCtorEq, jA, jB, jC, jD, jE, jF, jG, jH, jI, jJ, jK, tfCeLm5, f0, f4, hi1] | refine hX _ _ ?_; clear hX X | clear hX X; refine hX _ _ ?_; clear hX X | clear hX X; clear hX X; refine hX _ _ ?_; clear hX X | intro hlen; unfold maxLen at hlen | apply And.intro; focus (first | omega | assumption | (repeat' apply And.intro) <;> first | omega | assumption)))
        exact ⟨nxt _ _ _ _ _ env1 hc13 h3 (.inr ⟨hw255, hev⟩) _ f0 f1 rfl, by first | exact hmeas | omega⟩
  · rw [if_neg (by omega), if_neg (by omega), if_neg (by omega), if_pos hkk] at hev
    simp -implicitDefEqProofs only [↓slp, slb, ↓reduceIte, reduceCtorEq, jA, jB, jC, jD, jE, jF, jG, jH, jI, jJ, jK, tfCeLm5, f0]
    (repeat (first | refine aSeq fun X hX => ?_ | refine aBlk ?_ | refine aSkip ?_ | (first | refine aExit ?_ | refine aRet ?_); try simp only [slx, ↓reduceIte, Nat.reduceEqDiff, reduceCtorEq] | (first | refine aReg ?_ | refine aDrE ?_ | refine aIf ?_); simp -implicitDefEqProofs only [forall_eq, ↓slp, slb, ↓reduceIte, reduceCtorEq, jA, jB, jC, jD, jE, jF, jG, jH, jI, jJ, jK, tfCeLm5, f0, hkk, Int.reduceBEq] | refine hX _ _ ?_; clear hX X | clear hX X; refine hX _ _ ?_; clear hX X | clear hX X; clear hX X; refine hX _ _ ?_; clear hX X | intro hlen; unfold maxLen at hlen | apply And.intro; focus (first | omega | assumption | (repeat' apply And.intro) <;> first | omega | assumption)))
    have hcl := lcall_x body x0 hmade hkk p vs1 bs1 s2 env1 m2 hp h2 hE1 h321
    unfold CS.cs at hcl
    rw [hkk] at hcl
    refine callM hcl ?_
    rintro v m4 ⟨hc4, ⟨env4, vs4, bs4, s4, hr4, hE4, h324, h4⟩ | ⟨hw4, s4, vs4, bs4, hr4, hw255, h4⟩⟩
    · rw [CRn.bind_ok hr4] at hev
      simp -implicitDefEqProofs only [↓slp, slb, ↓reduceIte, reduceCtorEq, jA, jB, jC, jD, jE, jF, jG, jH, jI, jJ, jK, tfCeLm5, f0]
      (repeat (first | refine aSeq fun X hX => ?_ | refine aBlk ?_ | refine aSkip ?_ | (first | refine aExit ?_ | refine aRet ?_); try simp only [slx, ↓reduceIte, Nat.reduceEqDiff, reduceCtorEq] | (first | refine aReg ?_ | refine aDrE ?_ | refine aIf ?_); simp -implicitDefEqProofs only [forall_eq, ↓slp, slb, ↓reduceIte, reduceCtorEq, jA, jB, jC, jD, jE, jF, jG, jH, jI, jJ, jK, tfCeLm5, f0, f4, hi1] | refine hX _ _ ?_; clear hX X | clear hX X; refine hX _ _ ?_; clear hX X | clear hX X; clear hX X; refine hX _ _ ?_; clear hX X | intro hlen; unfold maxLen at hlen | apply And.intro; focus (first | omega | assumption | (repeat' apply And.intro) <;> first | omega | assumption)))
      exact ⟨nxt _ _ _ _ _ _ (hc12.trans hc4) h4 (.inl ⟨rfl, hE4, h324, hev⟩) _ f0 f1 rfl, by first | exact hmeas | omega⟩
    · rw [CRn.bind_bad hr4] at hev
      simp -implicitDefEqProofs only [↓slp, slb, ↓reduceIte, reduceCtorEq, jA, jB, jC, jD, jE, jF, jG, jH, jI, jJ, jK, tfCeLm5, f0]
      (repeat (first | refine aSeq fun X hX => ?_ | refine aBlk ?_ | refine aSkip ?_ | (first | refine aExit ?_ | refine aRet ?_); try simp only [slx, ↓reduceIte, Nat.reduceEqDiff, reduceCtorEq] | (first | refine aReg ?_ | refine aDrE ?_ | refine aIf ?_); simp -implicitDefEqProofs only [forall_eq, ↓slp, slb, ↓reduceIte, reduceCtorEq, jA, jB, jC, jD, jE, jF, jG, jH, jI, jJ, jK, tfCeLm5, f0, f4, hi1] | refine hX _ _ ?_; clear hX X | clear hX X; refine hX _ _ ?_; clear hX X | clear hX X; clear hX X; refine hX _ _ ?_; clear hX X | intro hlen; unfold maxLen at hlen | apply And.intro; focus (first | omega | assumption | (repeat' apply And.intro) <;> first | omega | assumption)))
      exact ⟨nxt _ _ _ _ _ env1 (hc12.trans hc4) h4 (.inr ⟨hw255, hev⟩) _ f0 f1 rfl, by first | exact hmeas | omega⟩
theorem do_all (body : List CS) (x : CS) : x.made → DoC body x.thn ∧ DoC body x.els := by
  refine CS.rec (motive_1 := fun x => x.made → DoC body x.thn ∧ DoC body x.els) (motive_2 := fun l => CS.mades l → ∀ x ∈ l, DoC body x.thn ∧ DoC body x.els) ?_ ?_ ?_ x
  · intro kind name part e thn els args outs ih1 ih2 hm
    have hm' := CS.made_x hm
    exact ⟨do_run body thn (CS.mades_mem _ hm'.2.2.2.2.1) (ih1 hm'.2.2.2.2.1), do_run body els (CS.mades_mem _ hm'.2.2.2.2.2) (ih2 hm'.2.2.2.2.2)⟩
  · intro _ x hx; cases hx
  · intro y l h1 h2 hg z hz
    rcases List.mem_cons.1 hz with rfl | hz
    · exact h1 hg.1
    · exact h2 hg.2 z hz
theorem dos_all (body l : List CS) (h : CS.mades l) : DoC body l := do_run body l (CS.mades_mem l h) fun x hx => do_all body x (CS.mades_mem l h x hx)
end Go.Proofs.Ytepjjgnkhcjpcaa
