/-
  Texts that belong together: CeLm1, CeLm2, CeLm3.
-/
import Derived.Test.YtepjjgnkhcjpcaaCeBsD
import Derived.Test.YtepjjgnkhcjpcaaCeMk2
import Derived.Test.YtepjjgnkhcjpcaaCeG4
/-
  The law's own machine: its state, a step, its end, a cell.
-/
set_option linter.unusedVariables false
set_option linter.unusedSimpArgs false
namespace Go.Proofs.Ytepjjgnkhcjpcaa
open Nat renaming reduceEqDiff → jA, reduceAdd → jB, reduceMul → jC, reduceLT → jD, reduceLeDiff → jE, reduceBEq → jF, reduceBNe → jG
open Int renaming reduceLE → jH, reduceLT → jI, reduceToNat → jJ, reduceEq → jK
open Go
-- EXX: CE.settle_pv, CE.pure_pv, CE.cells_pv, CE.cs, lCells
set_option maxRecDepth 20000
-- TNAMES: int; uint8; int32; string; bool; metronomelaw23.machine; *metronomelaw23.machine; [4]int32; [4]bool; []bool; []int32; clite.Expr; []clite.Expr; clite.Stmt; []clite.Stmt; []string

/-- The boxes of the law's machine. -/
structure LP where
  did : Nat
  dm : Nat
  dt : Nat
theorem e255 : ((255 : Nat) : Int) = 255 := rfl
def LP.ids (p : LP) : List Nat := [p.did, p.dm, p.dt]
structure LP.ok (p : LP) : Prop where
  n1 : p.did ≠ p.dm
  n2 : p.did ≠ p.dt
  n3 : p.dm ≠ p.dt
def lCells (p : LP) (vs : Nat → Int) (bs : Nat → Bool) (n left how : Nat) : List PV := [.v (.int .i32 (vs 0)), .v (.int .i32 (vs 1)), .v (.int .i32 (vs 2)), .v (.int .i32 (vs 3)), .v (.bool (bs 0)), .v (.bool (bs 1)), .v (.bool (bs 2)), .v (.bool (bs 3)), .bs p.dm 0 n, .bs p.dt 0 n, .v (.int .i64 left), .v (.int .u8 how)]
set_option linter.defProp false
def tfCeLm1 := And.intro @tfA (And.intro @Ex.settle_pv (And.intro @Ex.pure_pv (And.intro @Ex.cells_pv (And.intro @Ex.cs.eq_1 (And.intro @On.pv.eq_1 (And.intro @Ty.pv.eq_1 (And.intro @Va.settle_pv (And.intro @Va.pure_pv (And.intro @Va.cells_pv (And.intro @Va.cs.eq_1 (And.intro @CE.settle_pv (And.intro @CE.pure_pv (And.intro @CE.cells_pv (And.intro @CE.cs.eq_1 @lCells.eq_1))))))))))))))

structure LR (p : LP) (vs : Nat → Int) (bs : Nat → Bool) (s : CM) (how : Nat) (m : M) : Prop where
  gd : m.get p.did = some (lCells p vs bs s.mem.length s.left how)
  gm : m.get p.dm = some (memB s.mem)
  gt : m.get p.dt = some (tchB s.tch)
  tlen : s.tch.length = s.mem.length
  mlen : s.mem.length ≤ 1048576
  l62 : s.left < 2 ^ 62
  m32 : ∀ x ∈ s.mem, R32 x
section
variable {p : LP} {vs : Nat → Int} {bs : Nat → Bool} {s : CM} {how : Nat} {m m' : M}
/-- The box of the machine turns. -/
theorem LR.box (hp : p.ok) (h : LR p vs bs s how m) {vs' : Nat → Int} {bs' : Nat → Bool} {left' how' : Nat} (hl : left' < 2 ^ 62) : LR p vs' bs' { s with left := left' } how' (m.upd p.did (lCells p vs' bs' s.mem.length left' how')) :=
  ⟨get_upd_eq h.gd, (get_upd_ne (Ne.symm hp.n1)).trans h.gm, (get_upd_ne (Ne.symm hp.n2)).trans h.gt, h.tlen, h.mlen, hl, h.m32⟩
theorem LR.touch (hp : p.ok) (h : LR p vs bs s how m) (k : Nat) : LR p vs bs { s with tch := s.tch.set k true } how (m.upd p.dt (tchB (s.tch.set k true))) :=
  ⟨(get_upd_ne hp.n2).trans h.gd, (get_upd_ne hp.n3).trans h.gm, get_upd_eq h.gt, by show (s.tch.set k true).length = _; rw [List.length_set]; exact h.tlen, h.mlen, h.l62, h.m32⟩
theorem LR.store (hp : p.ok) (h : LR p vs bs s how m) (k : Nat) (x : Int) (hx : R32 x) : LR p vs bs { s with mem := s.mem.set k x } how (m.upd p.dm (memB (s.mem.set k x))) :=
  ⟨(get_upd_ne hp.n1).trans (by show m.get p.did = some (lCells p vs bs (s.mem.set k x).length s.left how); rw [List.length_set]; exact h.gd), get_upd_eq h.gm, (get_upd_ne (Ne.symm hp.n3)).trans h.gt, by show _ = (s.mem.set k x).length; rw [List.length_set]; exact h.tlen, by show (s.mem.set k x).length ≤ _; rw [List.length_set]; exact h.mlen, h.l62, fun y hy => by
    rcases List.mem_or_eq_of_mem_set hy with h' | h'
    · exact h.m32 y h'
    · exact h' ▸ hx⟩
theorem chg_box (c : List PV) : Chg p.ids m (m.upd p.did c) := .upd _ _ (by simp [LP.ids])
theorem chg_m (c : List PV) : Chg p.ids m (m.upd p.dm c) := .upd _ _ (by simp [LP.ids])
theorem chg_t (c : List PV) : Chg p.ids m (m.upd p.dt c) := .upd _ _ (by simp [LP.ids])
end
theorem within_atoms (n k : Nat) : ∀ l : List PV, (∀ x ∈ l, x.within n k = true) → PV.withins n k l = true
  | [], _ => rfl
  | x :: l, h => by simp only [PV.withins, h x (by simp), within_atoms n k l (fun y hy => h y (by simp [hy])), Bool.and_self]
theorem pures_within (n k : Nat) (l : List PV) (h : PV.pures l = true) : PV.withins n k l = true := by
  refine within_atoms n k l fun x hx => pure_withinC n k x ?_
  induction l with
  | nil => cases hx
  | cons y l ih =>
    simp only [PV.pures, Bool.and_eq_true] at h
    rcases List.mem_cons.1 hx with rfl | hx
    · exact h.1
    · exact ih h.2 hx
/-- What a method of the law's machine leaves. -/
theorem leave_lm {p : LP} {vs : Nat → Int} {bs : Nat → Bool} {s : CM} {how : Nat} {m m' : M} {v : PV} {R : PV → M → Prop} (h : LR p vs bs s how m') (hc : Chg p.ids m m') (hv : v.settle.pure = true) (hR : R v.settle m') : ∃ v' m'', Leave m m' v v' m'' ∧ R v' m'' := by
  have hb : m'.boxes.take m'.nb = m'.boxes := List.take_length
  have ht : m'.toks.take m'.nt = m'.toks := List.take_length
  refine ⟨_, _, .gen v v.settle m' (.inr rfl) (by rw [hc.nb]; exact Nat.le_refl _) (by unfold M.nt; rw [hc.toks]; exact Nat.le_refl _) hb ht (fun id c hid => ?_) (pure_withinC _ _ _ hv), hR⟩
  by_cases hi : id ∈ p.ids
  · refine .inr ?_
    simp only [LP.ids, List.mem_cons, List.not_mem_nil, or_false] at hi
    have b1 := get_nb h.gm
    have b2 := get_nb h.gt
    rcases hi with rfl | rfl | rfl
    · rw [h.gd] at hid
      cases hid
      simp [lCells, PV.withins, PV.within, b1, b2]
    · rw [h.gm] at hid; cases hid; exact pures_within _ _ _ (pures_mem _)
    · rw [h.gt] at hid; cases hid; exact pures_within _ _ _ (pures_tch _)
  · exact .inl (by rw [← hc.get id hi]; exact hid)
section
variable {p : LP} {vs : Nat → Int} {bs : Nat → Bool} {s : CM} {how : Nat} {m : M}
set_option maxHeartbeats 1000000 in
theorem lstep_no (h : LR p vs bs s how m) (hh : how ≠ 255) : ACalls Try.prog 38 [.bp p.did 0] m (fun v m' => v = .v (.bool false) ∧ m' = m) := by
  have gd := h.gd
  have c1 : ((how : Int) == 255) = false := by simp; omega
  refine ACalls.enter (mu := []) ok_mix Try.func38 rfl (by kernel_rfl) (by kernel_rfl) (by simp only [List.length_cons, List.length_nil, Try.ntmps38]; omega) ?_
  (repeat (first | refine aSeq fun X hX => ?_ | refine aBlk ?_ | refine aSkip ?_ | (first | refine aExit ?_ | refine aRet ?_); try simp only [slx, ↓reduceIte, Nat.reduceEqDiff, reduceCtorEq] | (first | refine aReg ?_ | refine aDrE ?_ | refine aIf ?_); simp -implicitDefEqProofs only [forall_eq, ↓slp, slb, ↓reduceIte, reduceCtorEq, jA, jB, jC, jD, jE, jF, jG, jH, jI, jJ, jK, tfCeLm1, gd, c1] | refine hX _ _ ?_; clear hX X | clear hX X; refine hX _ _ ?_; clear hX X | clear hX X; clear hX X; refine hX _ _ ?_; clear hX X | intro hlen; unfold maxLen at hlen | apply And.intro; focus (first | omega | assumption | (repeat' apply And.intro) <;> first | omega | assumption)))
  simp only [aPost, Try.results38, aRes_n, aRes_t, aRes_c, pack_one, pack_two]
  exact leave_same rfl ⟨rfl, rfl⟩
set_option maxHeartbeats 1000000 in
theorem lstep_any (hp : p.ok) (h : LR p vs bs s 255 m) : ACalls Try.prog 38 [.bp p.did 0] m (fun v m' => Chg p.ids m m' ∧ ((∃ s', v = .v (.bool true) ∧ stepC s = .ok () s' ∧ LR p vs bs s' 255 m') ∨ (v = .v (.bool false) ∧ stepC s = .bad 4 s ∧ LR p vs bs s 4 m'))) := by
  have gd := h.gd
  have h62 := h.l62
  refine ACalls.enter (mu := []) ok_mix Try.func38 rfl (by kernel_rfl) (by kernel_rfl) (by simp only [List.length_cons, List.length_nil, Try.ntmps38]; omega) ?_
  cases c1 : decide ((s.left : Int) < 1) with
  | true =>
    have hlt : s.left < 1 := by simp at c1; omega
    (repeat (first | refine aSeq fun X hX => ?_ | refine aBlk ?_ | refine aSkip ?_ | (first | refine aExit ?_ | refine aRet ?_); try simp only [slx, ↓reduceIte, Nat.reduceEqDiff, reduceCtorEq] | (first | refine aReg ?_ | refine aDrE ?_ | refine aIf ?_); simp -implicitDefEqProofs only [forall_eq, ↓slp, slb, ↓reduceIte, reduceCtorEq, jA, jB, jC, jD, jE, jF, jG, jH, jI, jJ, jK, tfCeLm1, gd, c1, e255, Int.reduceBEq] | refine hX _ _ ?_; clear hX X | clear hX X; refine hX _ _ ?_; clear hX X | clear hX X; clear hX X; refine hX _ _ ?_; clear hX X | intro hlen; unfold maxLen at hlen | apply And.intro; focus (first | omega | assumption | (repeat' apply And.intro) <;> first | omega | assumption)))
    simp only [aPost, Try.results38, aRes_n, aRes_t, aRes_c, pack_one, pack_two]
    have h' := h.box hp (vs' := vs) (bs' := bs) (left' := s.left) (how' := 4) h.l62
    exact leave_lm h' (chg_box _) rfl ⟨chg_box _, .inr ⟨rfl, by unfold stepC; rw [if_pos hlt], h'⟩⟩
  | false =>
    have hge : 1 ≤ s.left := by simp at c1; omega
    have hw : IntKind.i64.wrap ((s.left : Int) - 1) = ((s.left - 1 : Nat) : Int) := by rw [wrap64 (by omega)]; omega
    (repeat (first | refine aSeq fun X hX => ?_ | refine aBlk ?_ | refine aSkip ?_ | (first | refine aExit ?_ | refine aRet ?_); try simp only [slx, ↓reduceIte, Nat.reduceEqDiff, reduceCtorEq] | (first | refine aReg ?_ | refine aDrE ?_ | refine aIf ?_); simp -implicitDefEqProofs only [forall_eq, ↓slp, slb, ↓reduceIte, reduceCtorEq, jA, jB, jC, jD, jE, jF, jG, jH, jI, jJ, jK, tfCeLm1, gd, c1, e255, hw, Int.reduceBEq] | refine hX _ _ ?_; clear hX X | clear hX X; refine hX _ _ ?_; clear hX X | clear hX X; clear hX X; refine hX _ _ ?_; clear hX X | intro hlen; unfold maxLen at hlen | apply And.intro; focus (first | omega | assumption | (repeat' apply And.intro) <;> first | omega | assumption)))
    simp only [aPost, Try.results38, aRes_n, aRes_t, aRes_c, pack_one, pack_two]
    have h' := h.box hp (vs' := vs) (bs' := bs) (left' := s.left - 1) (how' := 255) (by omega)
    exact leave_lm h' (chg_box _) rfl ⟨chg_box _, .inl ⟨_, rfl, by unfold stepC; rw [if_neg (by omega)], h'⟩⟩
set_option maxHeartbeats 1000000 in
theorem lend_any (hp : p.ok) (h : LR p vs bs s 255 m) (e : Nat) : ACalls Try.prog 41 [.bp p.did 0, .v (.int .u8 e)] m (fun v m' => v = pJ 0 ∧ Chg p.ids m m' ∧ LR p vs bs s e m') := by
  have gd := h.gd
  refine ACalls.enter (mu := []) ok_mix Try.func41 rfl (by kernel_rfl) (by kernel_rfl) (by simp only [List.length_cons, List.length_nil, Try.ntmps41]; omega) ?_
  (repeat (first | refine aSeq fun X hX => ?_ | refine aBlk ?_ | refine aSkip ?_ | (first | refine aExit ?_ | refine aRet ?_); try simp only [slx, ↓reduceIte, Nat.reduceEqDiff, reduceCtorEq] | (first | refine aReg ?_ | refine aDrE ?_ | refine aIf ?_); simp -implicitDefEqProofs only [forall_eq, ↓slp, slb, ↓reduceIte, reduceCtorEq, jA, jB, jC, jD, jE, jF, jG, jH, jI, jJ, jK, tfCeLm1, gd, e255, Int.reduceBEq] | refine hX _ _ ?_; clear hX X | clear hX X; refine hX _ _ ?_; clear hX X | clear hX X; clear hX X; refine hX _ _ ?_; clear hX X | intro hlen; unfold maxLen at hlen | apply And.intro; focus (first | omega | assumption | (repeat' apply And.intro) <;> first | omega | assumption)))
  simp only [aPost, Try.results41, aRes_n, aRes_t, aRes_c, pack_one, pack_two]
  have h' := h.box hp (vs' := vs) (bs' := bs) (left' := s.left) (how' := e) h.l62
  exact leave_lm h' (chg_box _) rfl ⟨rfl, chg_box _, h'⟩
end
def lcell (s : Str) : Int := if s.toList == sFa.toList then 0 else if s.toList == sFb.toList then 3 else -1
set_option maxHeartbeats 1000000 in
theorem lcell_any (s : Str) (m : M) : ACalls Try.prog 40 [.v (.string s)] m (fun v m' => v = .v (.int .i64 (lcell s)) ∧ m' = m) := by
  unfold lcell
  cases c1 : (s.toList == sFa.toList) with
  | true =>
    have c1' : (s.toList == (⟨#[102, 97]⟩ : ByteArray).toList) = true := c1
    refine ACalls.enter (mu := []) ok_mix Try.func40 rfl (by kernel_rfl) (by kernel_rfl) (by simp only [List.length_cons, List.length_nil, Try.ntmps40]; omega) ?_
    (repeat (first | refine aSeq fun X hX => ?_ | refine aBlk ?_ | refine aSkip ?_ | (first | refine aExit ?_ | refine aRet ?_); try simp only [slx, ↓reduceIte, Nat.reduceEqDiff, reduceCtorEq] | (first | refine aReg ?_ | refine aDrE ?_ | refine aIf ?_); simp -implicitDefEqProofs only [forall_eq, ↓slp, slb, ↓reduceIte, reduceCtorEq, jA, jB, jC, jD, jE, jF, jG, jH, jI, jJ, jK, tfCeLm1, c1'] | refine hX _ _ ?_; clear hX X | clear hX X; refine hX _ _ ?_; clear hX X | clear hX X; clear hX X; refine hX _ _ ?_; clear hX X | intro hlen; unfold maxLen at hlen | apply And.intro; focus (first | omega | assumption | (repeat' apply And.intro) <;> first | omega | assumption)))
    simp only [aPost, Try.results40, aRes_n, aRes_t, aRes_c, pack_one, pack_two]
    exact leave_same rfl ⟨rfl, rfl⟩
  | false =>
    have c1' : (s.toList == (⟨#[102, 97]⟩ : ByteArray).toList) = false := c1
    cases c2 : (s.toList == sFb.toList) with
    | true =>
      have c2' : (s.toList == (⟨#[102, 98]⟩ : ByteArray).toList) = true := c2
      refine ACalls.enter (mu := []) ok_mix Try.func40 rfl (by kernel_rfl) (by kernel_rfl) (by simp only [List.length_cons, List.length_nil, Try.ntmps40]; omega) ?_
      (repeat (first | refine aSeq fun X hX => ?_ | refine aBlk ?_ | refine aSkip ?_ | (first | refine aExit ?_ | refine aRet ?_); try simp only [slx, ↓reduceIte, Nat.reduceEqDiff, reduceCtorEq] | (first | refine aReg ?_ | refine aDrE ?_ | refine aIf ?_); simp -implicitDefEqProofs only [forall_eq, ↓slp, slb, ↓reduceIte, reduceCtorEq, jA, jB, jC, jD, jE, jF, jG, jH, jI, jJ, jK, tfCeLm1, c1', c2'] | refine hX _ _ ?_; clear hX X | clear hX X; refine hX _ _ ?_; clear hX X | clear hX X; clear hX X; refine hX _ _ ?_; clear hX X | intro hlen; unfold maxLen at hlen | apply And.intro; focus (first | omega | assumption | (repeat' apply And.intro) <;> first | omega | assumption)))
      simp only [aPost, Try.results40, aRes_n, aRes_t, aRes_c, pack_one, pack_two]
      exact leave_same rfl ⟨rfl, rfl⟩
    | false =>
      have c2' : (s.toList == (⟨#[102, 98]⟩ : ByteArray).toList) = false := c2
      refine ACalls.enter (mu := []) ok_mix Try.func40 rfl (by kernel_rfl) (by kernel_rfl) (by simp only [List.length_cons, List.length_nil, Try.ntmps40]; omega) ?_
      (repeat (first | refine aSeq fun X hX => ?_ | refine aBlk ?_ | refine aSkip ?_ | (first | refine aExit ?_ | refine aRet ?_); try simp only [slx, ↓reduceIte, Nat.reduceEqDiff, reduceCtorEq] | (first | refine aReg ?_ | refine aDrE ?_ | refine aIf ?_); simp -implicitDefEqProofs only [forall_eq, ↓slp, slb, ↓reduceIte, reduceCtorEq, jA, jB, jC, jD, jE, jF, jG, jH, jI, jJ, jK, tfCeLm1, c1', c2'] | refine hX _ _ ?_; clear hX X | clear hX X; refine hX _ _ ?_; clear hX X | clear hX X; clear hX X; refine hX _ _ ?_; clear hX X | intro hlen; unfold maxLen at hlen | apply And.intro; focus (first | omega | assumption | (repeat' apply And.intro) <;> first | omega | assumption)))
      simp only [aPost, Try.results40, aRes_n, aRes_t, aRes_c, pack_one, pack_two]
      exact leave_same rfl ⟨rfl, rfl⟩
/-- The cells of the law's struct, any name. -/
theorem off_any (fld : Str) : (offsetF progL sS fld = (0, sE) ∧ lcell fld = 0) ∨ (offsetF progL sS fld = (3, sE) ∧ lcell fld = 3) ∨ (((offsetF progL sS fld).1 < 0 ∨ ((offsetF progL sS fld).2.toList == (⟨#[]⟩ : ByteArray).toList) = false) ∧ lcell fld = -1) := by
  have hb : ∀ {a b : Str}, (a.toList == b.toList) = true → a = b := fun h => bytes_tl.1 h
  unfold lcell
  cases c1 : (fld.toList == sFa.toList) with
  | true => left; rw [hb c1]; exact ⟨off_fa, rfl⟩
  | false =>
    cases c2 : (fld.toList == sFb.toList) with
    | true => right; left; rw [hb c2]; exact ⟨off_fb, rfl⟩
    | false =>
      right; right
      refine ⟨?_, rfl⟩
      cases c3 : (fld.toList == sP.toList) with
      | true => rw [hb c3, off_p]; right; simp [sT, ByteArray.toList_eq]
      | false =>
        left
        have n1 : ¬ sFa.toList = fld.toList := fun h => by rw [h] at c1; simp at c1
        have n2 : ¬ sFb.toList = fld.toList := fun h => by rw [h] at c2; simp at c2
        have n3 : ¬ sP.toList = fld.toList := fun h => by rw [h] at c3; simp at c3
        have q1 : (sFa.toList == fld.toList) = false := by simpa using n1
        have q2 : (sFb.toList == fld.toList) = false := by simpa using n2
        have q3 : (sP.toList == fld.toList) = false := by simpa using n3
        have hf : findS progL sS = 1 := by simp [findS, idxF, isSr, progL, sS, sT, ByteArray.toList_eq]
        have e1 : (progL.getD 1 ⟨⟨#[]⟩, []⟩).fields = [⟨sFa, sE⟩, ⟨sP, sT⟩, ⟨sFb, sE⟩] := rfl
        have k2 : sizeF progL progL.length sT = 2 := by simp [findS, idxF, isSr, progL, kF, sizeF, sumF, ByteArray.toList_eq, sT, sS, sFa, sFb, sP, sE]
        have k3 : (sE.toList == (⟨#[]⟩ : ByteArray).toList) = true := by simp [sE]
        have k4 : (sT.toList == (⟨#[]⟩ : ByteArray).toList) = false := by simp [sT, ByteArray.toList_eq]
        rw [offsetF, hf, if_neg (by omega), show (1 : Int).toNat = 1 from rfl, e1]
        simp only [offF, q1, q2, q3, kF, k3, k4, k2, if_true, Bool.false_eq_true, if_false]
        decide
end Go.Proofs.Ytepjjgnkhcjpcaa

/-
  The law's machine: an expression's value is the evaluator's.
-/
set_option linter.unusedVariables false
set_option linter.unusedSimpArgs false
namespace Go.Proofs.Ytepjjgnkhcjpcaa
open Nat renaming reduceEqDiff → jA, reduceAdd → jB, reduceMul → jC, reduceLT → jD, reduceLeDiff → jE, reduceBEq → jF, reduceBNe → jG
open Int renaming reduceLE → jH, reduceLT → jI, reduceToNat → jJ, reduceEq → jK
open Go
-- EXX: CE.settle_pv, CE.pure_pv, CE.cells_pv, CE.cs, lCells
set_option maxRecDepth 20000
-- TNAMES: int; uint8; int32; string; bool; metronomelaw23.machine; *metronomelaw23.machine; [4]int32; [4]bool; []bool; []int32; clite.Expr; []clite.Expr; clite.Stmt; []clite.Stmt; []string
set_option linter.defProp false
def tfCeLm2 := And.intro @tfA (And.intro @Ex.settle_pv (And.intro @Ex.pure_pv (And.intro @Ex.cells_pv (And.intro @Ex.cs.eq_1 (And.intro @On.pv.eq_1 (And.intro @Ty.pv.eq_1 (And.intro @Va.settle_pv (And.intro @Va.pure_pv (And.intro @Va.cells_pv (And.intro @Va.cs.eq_1 (And.intro @CE.settle_pv (And.intro @CE.pure_pv (And.intro @CE.cells_pv (And.intro @CE.cs.eq_1 @lCells.eq_1))))))))))))))

def nmV (t : Nat) : Str := ⟨#[118]⟩ ++ strOf [((97 + t : Nat) : Int)]
mutual
def CE.locs : CE → Prop
  | .mk k op n nm kids => (k = 2 → kids = [] → ∃ t, t < 4 ∧ nm = nmV t) ∧ CE.locss kids
def CE.locss : List CE → Prop
  | [] => True
  | e :: l => e.locs ∧ CE.locss l
end
theorem CE.locss_mem : ∀ (l : List CE), CE.locss l → ∀ e ∈ l, e.locs
  | [], _, e, h => by cases h
  | a :: l, hg, e, h => by
    rcases List.mem_cons.1 h with rfl | h
    · exact hg.1
    · exact CE.locss_mem l hg.2 e h
theorem CE.locs_name {e : CE} (h : e.locs) : e.kind = 2 → e.kids = [] → ∃ t, t < 4 ∧ e.name = nmV t := by cases e; exact h.1
theorem CE.locs_kids {e : CE} (h : e.locs) : ∀ x ∈ e.kids, x.locs := by cases e; exact CE.locss_mem _ h.2
theorem cell0 (fld : Str) (s : CM) : cellC progL sS 0 fld s = if lcell fld < 0 ∨ lcell fld ≥ s.mem.length then .bad 2 s else .ok (lcell fld).toNat { s with tch := s.tch.set (lcell fld).toNat true } := by
  unfold cellC
  have w0 : IntKind.i64.wrap (0 + 0) = 0 := rfl
  have w3 : IntKind.i64.wrap (0 + 3) = 3 := rfl
  have e1 : (sE.toList == (⟨#[]⟩ : ByteArray).toList) = true := by simp [sE]
  rcases off_any fld with ⟨h1, h2⟩ | ⟨h1, h2⟩ | ⟨h1, h2⟩
  · simp only [h1, h2, w0]
    by_cases q : (0 : Int) ≥ s.mem.length
    · rw [if_pos (.inr (.inr (.inr q))), if_pos (.inr q)]
    · rw [if_neg (by rw [e1]; rintro (h | h | h | h) <;> first | omega | cases h), if_neg (by omega)]
  · simp only [h1, h2, w3]
    by_cases q : (3 : Int) ≥ s.mem.length
    · rw [if_pos (.inr (.inr (.inr q))), if_pos (.inr q)]
    · rw [if_neg (by rw [e1]; rintro (h | h | h | h) <;> first | omega | cases h), if_neg (by omega)]
  · have hR : (if lcell fld < 0 ∨ lcell fld ≥ s.mem.length then CRn.bad 2 s else .ok (lcell fld).toNat { s with tch := s.tch.set (lcell fld).toNat true }) = .bad 2 s := if_pos (.inl (by omega))
    rw [hR]
    rcases h1 with h1 | h1
    · rw [if_pos (.inl h1)]
    · rw [if_pos (.inr (.inl h1))]
/-- The variables of a frame are those of the law's machine. -/
def EnvR (env : Env) (vs : Nat → Int) (bs : Nat → Bool) : Prop := ∀ t, t < 4 → env.find (nmV t) = if bs t = true then some (vs t) else none
def EVL (env : Env) (e : CE) (s : CM) : CRn Int := evalC unN binN progL sS 0 env e s
/-- What a value leaves. -/
def ValR (p : LP) (vs : Nat → Int) (bs : Nat → Bool) (m : M) (r : CRn Int) (v : PV) (m' : M) : Prop :=
  Chg p.ids m m' ∧ ((∃ x s', r = .ok x s' ∧ v = pJ x ∧ R32 x ∧ LR p vs bs s' 255 m') ∨ (∃ (h : Nat) (s' : CM) (x : Int), r = .bad h s' ∧ (0 < h ∧ h < 255) ∧ v = pJ x ∧ R32 x ∧ LR p vs bs s' h m'))
def ValC (e : CE) : Prop := ∀ (p : LP) (vs : Nat → Int) (bs : Nat → Bool) (s : CM) (env : Env) (m : M), p.ok → LR p vs bs s 255 m → EnvR env vs bs → (∀ x ∈ env, R32 x.2) →
  ACalls Try.prog 39 [.bp p.did 0, .ag e.cs] m (ValR p vs bs m (EVL env e s))
set_option maxHeartbeats 2000000 in
theorem val_no {p : LP} {vs : Nat → Int} {bs : Nat → Bool} {s : CM} {how : Nat} {m : M} (h : LR p vs bs s how m) (hh : how ≠ 255) (e : CE) : ACalls Try.prog 39 [.bp p.did 0, .ag e.cs] m (fun v m' => v = pJ 0 ∧ m' = m) := by
  refine ACalls.enter (mu := []) ok_mix Try.func39 rfl (by kernel_rfl) (by kernel_rfl) (by simp only [List.length_cons, List.length_nil, Try.ntmps39]; omega) ?_
  (repeat (first | refine aSeq fun X hX => ?_ | refine aBlk ?_ | refine aSkip ?_ | (first | refine aExit ?_ | refine aRet ?_); try simp only [slx, ↓reduceIte, Nat.reduceEqDiff, reduceCtorEq] | (first | refine aReg ?_ | refine aDrE ?_ | refine aIf ?_); simp -implicitDefEqProofs only [forall_eq, ↓slp, slb, ↓reduceIte, reduceCtorEq, jA, jB, jC, jD, jE, jF, jG, jH, jI, jJ, jK, tfCeLm2] | refine hX _ _ ?_; clear hX X | clear hX X; refine hX _ _ ?_; clear hX X | clear hX X; clear hX X; refine hX _ _ ?_; clear hX X | intro hlen; unfold maxLen at hlen | apply And.intro; focus (first | omega | assumption | (repeat' apply And.intro) <;> first | omega | assumption)))
  refine callE (lstep_no h hh) ?_
  simp -implicitDefEqProofs only [↓slp, slb, ↓reduceIte, reduceCtorEq, jA, jB, jC, jD, jE, jF, jG, jH, jI, jJ, jK, tfCeLm2]
  (repeat (first | refine aSeq fun X hX => ?_ | refine aBlk ?_ | refine aSkip ?_ | (first | refine aExit ?_ | refine aRet ?_); try simp only [slx, ↓reduceIte, Nat.reduceEqDiff, reduceCtorEq] | (first | refine aReg ?_ | refine aDrE ?_ | refine aIf ?_); simp -implicitDefEqProofs only [forall_eq, ↓slp, slb, ↓reduceIte, reduceCtorEq, jA, jB, jC, jD, jE, jF, jG, jH, jI, jJ, jK, tfCeLm2] | refine hX _ _ ?_; clear hX X | clear hX X; refine hX _ _ ?_; clear hX X | clear hX X; clear hX X; refine hX _ _ ?_; clear hX X | intro hlen; unfold maxLen at hlen | apply And.intro; focus (first | omega | assumption | (repeat' apply And.intro) <;> first | omega | assumption)))
  simp only [aPost, Try.results39, aRes_n, aRes_t, aRes_c, pack_one, pack_two]
  exact leave_same rfl ⟨rfl, rfl⟩
theorem r32_0' : R32 0 := by unfold R32; omega
set_option maxHeartbeats 16000000 in
theorem val_run (e : CE) (ih : ∀ (k : Nat) (hk : k < e.kids.length), ValC e.kids[k]) (hg : e.good) (hl : e.locs) : ValC e := by
  intro p vs bs s env m hp h hE h32
  have hk0 := CE.good_kind hg
  obtain ⟨EV, hEV⟩ : ∃ EV, EVL env e s = EV := ⟨_, rfl⟩
  rw [hEV]
  refine ACalls.enter (mu := []) ok_mix Try.func39 rfl (by kernel_rfl) (by kernel_rfl) (by simp only [List.length_cons, List.length_nil, Try.ntmps39]; omega) ?_
  (repeat (first | refine aSeq fun X hX => ?_ | refine aBlk ?_ | refine aSkip ?_ | (first | refine aExit ?_ | refine aRet ?_); try simp only [slx, ↓reduceIte, Nat.reduceEqDiff, reduceCtorEq] | (first | refine aReg ?_ | refine aDrE ?_ | refine aIf ?_); simp -implicitDefEqProofs only [forall_eq, ↓slp, slb, ↓reduceIte, reduceCtorEq, jA, jB, jC, jD, jE, jF, jG, jH, jI, jJ, jK, tfCeLm2] | refine hX _ _ ?_; clear hX X | clear hX X; refine hX _ _ ?_; clear hX X | clear hX X; clear hX X; refine hX _ _ ?_; clear hX X | intro hlen; unfold maxLen at hlen | apply And.intro; focus (first | omega | assumption | (repeat' apply And.intro) <;> first | omega | assumption)))
  refine callM (lstep_any hp h) ?_
  rintro v m1 ⟨hc1, ⟨s1, rfl, hs1, h1⟩ | ⟨rfl, hs1, h1⟩⟩
  rotate_left
  · simp -implicitDefEqProofs only [↓slp, slb, ↓reduceIte, reduceCtorEq, jA, jB, jC, jD, jE, jF, jG, jH, jI, jJ, jK, tfCeLm2]
    (repeat (first | refine aSeq fun X hX => ?_ | refine aBlk ?_ | refine aSkip ?_ | (first | refine aExit ?_ | refine aRet ?_); try simp only [slx, ↓reduceIte, Nat.reduceEqDiff, reduceCtorEq] | (first | refine aReg ?_ | refine aDrE ?_ | refine aIf ?_); simp -implicitDefEqProofs only [forall_eq, ↓slp, slb, ↓reduceIte, reduceCtorEq, jA, jB, jC, jD, jE, jF, jG, jH, jI, jJ, jK, tfCeLm2] | refine hX _ _ ?_; clear hX X | clear hX X; refine hX _ _ ?_; clear hX X | clear hX X; clear hX X; refine hX _ _ ?_; clear hX X | intro hlen; unfold maxLen at hlen | apply And.intro; focus (first | omega | assumption | (repeat' apply And.intro) <;> first | omega | assumption)))
    simp only [aPost, Try.results39, aRes_n, aRes_t, aRes_c, pack_one, pack_two]
    exact leave_lm h1 hc1 rfl ⟨hc1, .inr ⟨4, s, 0, by rw [← hEV, EVL, evalC_eq, CRn.bind_bad hs1], by omega, rfl, r32_0', h1⟩⟩
  have hnone : (e.kind = 0 ∨ 7 ≤ e.kind ∨ (0 ≤ e.kind ∧ e.kids.length ≠ wantN e.kind.toNat)) → EV = .bad 6 s1 := fun h => by rw [← hEV]; exact evalC_none _ _ _ _ _ _ _ _ _ hs1 h
  have hfin6 : EV = .bad 6 s1 → ∀ m2, Chg p.ids m1 m2 → LR p vs bs s1 6 m2 → ValR p vs bs m EV (pJ 0) m2 := fun he m2 hc2 h2 => ⟨hc1.trans hc2, .inr ⟨6, s1, 0, he, by omega, rfl, r32_0', h2⟩⟩
  have hE1 := hEV.symm
  rw [EVL, evalC_eq, CRn.bind_ok hs1] at hE1
  clear hEV
  by_cases h7 : 7 ≤ e.kind
  · have c6 : decide (e.kind > 6) = true := by simp; omega
    have q4 : (e.kind == 4) = false := by simp; omega
    have q5 : (e.kind == 5) = false := by simp; omega
    have q6 : (e.kind == 6) = false := by simp; omega
    simp -implicitDefEqProofs only [↓slp, slb, ↓reduceIte, reduceCtorEq, jA, jB, jC, jD, jE, jF, jG, jH, jI, jJ, jK, tfCeLm2]
    (repeat (first | refine aSeq fun X hX => ?_ | refine aBlk ?_ | refine aSkip ?_ | (first | refine aExit ?_ | refine aRet ?_); try simp only [slx, ↓reduceIte, Nat.reduceEqDiff, reduceCtorEq] | (first | refine aReg ?_ | refine aDrE ?_ | refine aIf ?_); simp -implicitDefEqProofs only [forall_eq, ↓slp, slb, ↓reduceIte, reduceCtorEq, jA, jB, jC, jD, jE, jF, jG, jH, jI, jJ, jK, tfCeLm2, q4, q5, q6, c6] | refine hX _ _ ?_; clear hX X | clear hX X; refine hX _ _ ?_; clear hX X | clear hX X; clear hX X; refine hX _ _ ?_; clear hX X | intro hlen; unfold maxLen at hlen | apply And.intro; focus (first | omega | assumption | (repeat' apply And.intro) <;> first | omega | assumption)))
    refine callM (lend_any hp h1 6) ?_
    rintro v m2 ⟨rfl, hc2, h2⟩
    simp -implicitDefEqProofs only [↓slp, slb, ↓reduceIte, reduceCtorEq, jA, jB, jC, jD, jE, jF, jG, jH, jI, jJ, jK, tfCeLm2]
    (repeat (first | refine aSeq fun X hX => ?_ | refine aBlk ?_ | refine aSkip ?_ | (first | refine aExit ?_ | refine aRet ?_); try simp only [slx, ↓reduceIte, Nat.reduceEqDiff, reduceCtorEq] | (first | refine aReg ?_ | refine aDrE ?_ | refine aIf ?_); simp -implicitDefEqProofs only [forall_eq, ↓slp, slb, ↓reduceIte, reduceCtorEq, jA, jB, jC, jD, jE, jF, jG, jH, jI, jJ, jK, tfCeLm2] | refine hX _ _ ?_; clear hX X | clear hX X; refine hX _ _ ?_; clear hX X | clear hX X; clear hX X; refine hX _ _ ?_; clear hX X | intro hlen; unfold maxLen at hlen | apply And.intro; focus (first | omega | assumption | (repeat' apply And.intro) <;> first | omega | assumption)))
    simp only [aPost, Try.results39, aRes_n, aRes_t, aRes_c, pack_one, pack_two]
    exact leave_lm h2 (hc1.trans hc2) rfl (hfin6 (hnone (.inr (.inl h7))) m2 hc2 h2)
  have hcase : e.kind = 0 ∨ e.kind = 1 ∨ e.kind = 2 ∨ e.kind = 3 ∨ e.kind = 4 ∨ e.kind = 5 ∨ e.kind = 6 := by omega
  rcases hcase with k0 | k0 | k0 | k0 | k0 | k0 | k0
  · simp -implicitDefEqProofs only [↓slp, slb, ↓reduceIte, reduceCtorEq, jA, jB, jC, jD, jE, jF, jG, jH, jI, jJ, jK, tfCeLm2]
    (repeat (first | refine aSeq fun X hX => ?_ | refine aBlk ?_ | refine aSkip ?_ | (first | refine aExit ?_ | refine aRet ?_); try simp only [slx, ↓reduceIte, Nat.reduceEqDiff, reduceCtorEq] | (first | refine aReg ?_ | refine aDrE ?_ | refine aIf ?_); simp -implicitDefEqProofs only [forall_eq, ↓slp, slb, ↓reduceIte, reduceCtorEq, jA, jB, jC, jD, jE, jF, jG, jH, jI, jJ, jK, tfCeLm2, k0, gt_iff_lt, Int.reduceLT, Int.reduceBEq, e255] | refine hX _ _ ?_; clear hX X | clear hX X; refine hX _ _ ?_; clear hX X | clear hX X; clear hX X; refine hX _ _ ?_; clear hX X | intro hlen; unfold maxLen at hlen | apply And.intro; focus (first | omega | assumption | (repeat' apply And.intro) <;> first | omega | assumption)))
    refine callM (lend_any hp h1 6) ?_
    rintro v m2 ⟨rfl, hc2, h2⟩
    simp -implicitDefEqProofs only [↓slp, slb, ↓reduceIte, reduceCtorEq, jA, jB, jC, jD, jE, jF, jG, jH, jI, jJ, jK, tfCeLm2]
    (repeat (first | refine aSeq fun X hX => ?_ | refine aBlk ?_ | refine aSkip ?_ | (first | refine aExit ?_ | refine aRet ?_); try simp only [slx, ↓reduceIte, Nat.reduceEqDiff, reduceCtorEq] | (first | refine aReg ?_ | refine aDrE ?_ | refine aIf ?_); simp -implicitDefEqProofs only [forall_eq, ↓slp, slb, ↓reduceIte, reduceCtorEq, jA, jB, jC, jD, jE, jF, jG, jH, jI, jJ, jK, tfCeLm2] | refine hX _ _ ?_; clear hX X | clear hX X; refine hX _ _ ?_; clear hX X | clear hX X; clear hX X; refine hX _ _ ?_; clear hX X | intro hlen; unfold maxLen at hlen | apply And.intro; focus (first | omega | assumption | (repeat' apply And.intro) <;> first | omega | assumption)))
    simp only [aPost, Try.results39, aRes_n, aRes_t, aRes_c, pack_one, pack_two]
    exact leave_lm h2 (hc1.trans hc2) rfl (hfin6 (hnone (.inl k0)) m2 hc2 h2)
  · cases c8 : (((e.kids.length : Int)) == 0) with
    | false =>
      have h8 : e.kids.length ≠ wantN e.kind.toNat := by rw [k0]; show e.kids.length ≠ 0; intro hh; rw [hh] at c8; simp at c8
      simp -implicitDefEqProofs only [↓slp, slb, ↓reduceIte, reduceCtorEq, jA, jB, jC, jD, jE, jF, jG, jH, jI, jJ, jK, tfCeLm2]
      (repeat (first | refine aSeq fun X hX => ?_ | refine aBlk ?_ | refine aSkip ?_ | (first | refine aExit ?_ | refine aRet ?_); try simp only [slx, ↓reduceIte, Nat.reduceEqDiff, reduceCtorEq] | (first | refine aReg ?_ | refine aDrE ?_ | refine aIf ?_); simp -implicitDefEqProofs only [forall_eq, ↓slp, slb, ↓reduceIte, reduceCtorEq, jA, jB, jC, jD, jE, jF, jG, jH, jI, jJ, jK, tfCeLm2, k0, c8, gt_iff_lt, Int.reduceLT, Int.reduceBEq, e255] | refine hX _ _ ?_; clear hX X | clear hX X; refine hX _ _ ?_; clear hX X | clear hX X; clear hX X; refine hX _ _ ?_; clear hX X | intro hlen; unfold maxLen at hlen | apply And.intro; focus (first | omega | assumption | (repeat' apply And.intro) <;> first | omega | assumption)))
      refine callM (lend_any hp h1 6) ?_
      rintro v m2 ⟨rfl, hc2, h2⟩
      simp -implicitDefEqProofs only [↓slp, slb, ↓reduceIte, reduceCtorEq, jA, jB, jC, jD, jE, jF, jG, jH, jI, jJ, jK, tfCeLm2]
      (repeat (first | refine aSeq fun X hX => ?_ | refine aBlk ?_ | refine aSkip ?_ | (first | refine aExit ?_ | refine aRet ?_); try simp only [slx, ↓reduceIte, Nat.reduceEqDiff, reduceCtorEq] | (first | refine aReg ?_ | refine aDrE ?_ | refine aIf ?_); simp -implicitDefEqProofs only [forall_eq, ↓slp, slb, ↓reduceIte, reduceCtorEq, jA, jB, jC, jD, jE, jF, jG, jH, jI, jJ, jK, tfCeLm2] | refine hX _ _ ?_; clear hX X | clear hX X; refine hX _ _ ?_; clear hX X | clear hX X; clear hX X; refine hX _ _ ?_; clear hX X | intro hlen; unfold maxLen at hlen | apply And.intro; focus (first | omega | assumption | (repeat' apply And.intro) <;> first | omega | assumption)))
      simp only [aPost, Try.results39, aRes_n, aRes_t, aRes_c, pack_one, pack_two]
      exact leave_lm h2 (hc1.trans hc2) rfl (hfin6 (hnone (.inr (.inr ⟨hk0.1, h8⟩))) m2 hc2 h2)
    | true =>
    have h8 : e.kids.length = 0 := by have := eq_of_beq c8; omega
    rw [if_pos k0] at hE1
    have hkids : e.kids = [] := List.length_eq_zero_iff.1 h8
    rw [hkids] at hE1
    dsimp only at hE1
    simp -implicitDefEqProofs only [↓slp, slb, ↓reduceIte, reduceCtorEq, jA, jB, jC, jD, jE, jF, jG, jH, jI, jJ, jK, tfCeLm2]
    (repeat (first | refine aSeq fun X hX => ?_ | refine aBlk ?_ | refine aSkip ?_ | (first | refine aExit ?_ | refine aRet ?_); try simp only [slx, ↓reduceIte, Nat.reduceEqDiff, reduceCtorEq] | (first | refine aReg ?_ | refine aDrE ?_ | refine aIf ?_); simp -implicitDefEqProofs only [forall_eq, ↓slp, slb, ↓reduceIte, reduceCtorEq, jA, jB, jC, jD, jE, jF, jG, jH, jI, jJ, jK, tfCeLm2, k0, c8, gt_iff_lt, Int.reduceLT, Int.reduceBEq, e255] | refine hX _ _ ?_; clear hX X | clear hX X; refine hX _ _ ?_; clear hX X | clear hX X; clear hX X; refine hX _ _ ?_; clear hX X | intro hlen; unfold maxLen at hlen | apply And.intro; focus (first | omega | assumption | (repeat' apply And.intro) <;> first | omega | assumption)))
    simp only [aPost, Try.results39, aRes_n, aRes_t, aRes_c, pack_one, pack_two]
    exact leave_lm h1 hc1 rfl ⟨hc1, .inl ⟨e.n, s1, hE1, rfl, CE.good_n hg, h1⟩⟩
  · cases c8 : (((e.kids.length : Int)) == 0) with
    | false =>
      have h8 : e.kids.length ≠ wantN e.kind.toNat := by rw [k0]; show e.kids.length ≠ 0; intro hh; rw [hh] at c8; simp at c8
      simp -implicitDefEqProofs only [↓slp, slb, ↓reduceIte, reduceCtorEq, jA, jB, jC, jD, jE, jF, jG, jH, jI, jJ, jK, tfCeLm2]
      (repeat (first | refine aSeq fun X hX => ?_ | refine aBlk ?_ | refine aSkip ?_ | (first | refine aExit ?_ | refine aRet ?_); try simp only [slx, ↓reduceIte, Nat.reduceEqDiff, reduceCtorEq] | (first | refine aReg ?_ | refine aDrE ?_ | refine aIf ?_); simp -implicitDefEqProofs only [forall_eq, ↓slp, slb, ↓reduceIte, reduceCtorEq, jA, jB, jC, jD, jE, jF, jG, jH, jI, jJ, jK, tfCeLm2, k0, c8, gt_iff_lt, Int.reduceLT, Int.reduceBEq, e255] | refine hX _ _ ?_; clear hX X | clear hX X; refine hX _ _ ?_; clear hX X | clear hX X; clear hX X; refine hX _ _ ?_; clear hX X | intro hlen; unfold maxLen at hlen | apply And.intro; focus (first | omega | assumption | (repeat' apply And.intro) <;> first | omega | assumption)))
      refine callM (lend_any hp h1 6) ?_
      rintro v m2 ⟨rfl, hc2, h2⟩
      simp -implicitDefEqProofs only [↓slp, slb, ↓reduceIte, reduceCtorEq, jA, jB, jC, jD, jE, jF, jG, jH, jI, jJ, jK, tfCeLm2]
      (repeat (first | refine aSeq fun X hX => ?_ | refine aBlk ?_ | refine aSkip ?_ | (first | refine aExit ?_ | refine aRet ?_); try simp only [slx, ↓reduceIte, Nat.reduceEqDiff, reduceCtorEq] | (first | refine aReg ?_ | refine aDrE ?_ | refine aIf ?_); simp -implicitDefEqProofs only [forall_eq, ↓slp, slb, ↓reduceIte, reduceCtorEq, jA, jB, jC, jD, jE, jF, jG, jH, jI, jJ, jK, tfCeLm2] | refine hX _ _ ?_; clear hX X | clear hX X; refine hX _ _ ?_; clear hX X | clear hX X; clear hX X; refine hX _ _ ?_; clear hX X | intro hlen; unfold maxLen at hlen | apply And.intro; focus (first | omega | assumption | (repeat' apply And.intro) <;> first | omega | assumption)))
      simp only [aPost, Try.results39, aRes_n, aRes_t, aRes_c, pack_one, pack_two]
      exact leave_lm h2 (hc1.trans hc2) rfl (hfin6 (hnone (.inr (.inr ⟨hk0.1, h8⟩))) m2 hc2 h2)
    | true =>
    have h8 : e.kids.length = 0 := by have := eq_of_beq c8; omega
    rw [if_neg (by omega), if_pos k0] at hE1
    have hkids : e.kids = [] := List.length_eq_zero_iff.1 h8
    rw [hkids] at hE1
    dsimp only at hE1
    simp -implicitDefEqProofs only [↓slp, slb, ↓reduceIte, reduceCtorEq, jA, jB, jC, jD, jE, jF, jG, jH, jI, jJ, jK, tfCeLm2]
    obtain ⟨t, ht, hnm⟩ := CE.locs_name hl k0 hkids
    have he := hE t ht
    have gd := h1.gd
    have ht4 : t = 0 ∨ t = 1 ∨ t = 2 ∨ t = 3 := by omega
    rcases ht4 with rfl | rfl | rfl | rfl
    · have n0 : (⟨#[118]⟩ ++ strOf [((97 + 0 : Nat) : Int)] : ByteArray) = ⟨#[118, 97]⟩ := by decide +kernel
      rw [show nmV 0 = ⟨#[118, 97]⟩ from n0] at hnm he
      have ux : IntKind.i64.wrap (IntKind.u8.wrap (((97 : UInt8).toNat : Int) - 97)) = 0 := rfl
      cases hb : bs 0 with
      | false =>
        rw [hb] at he
        rw [hnm, he] at hE1
        (repeat (first | refine aSeq fun X hX => ?_ | refine aBlk ?_ | refine aSkip ?_ | (first | refine aExit ?_ | refine aRet ?_); try simp only [slx, ↓reduceIte, Nat.reduceEqDiff, reduceCtorEq] | (first | refine aReg ?_ | refine aDrE ?_ | refine aIf ?_); simp -implicitDefEqProofs only [forall_eq, ↓slp, slb, ↓reduceIte, reduceCtorEq, jA, jB, jC, jD, jE, jF, jG, jH, jI, jJ, jK, tfCeLm2, k0, c8, hnm, gt_iff_lt, Int.reduceLT, Int.reduceBEq, e255] | refine hX _ _ ?_; clear hX X | clear hX X; refine hX _ _ ?_; clear hX X | clear hX X; clear hX X; refine hX _ _ ?_; clear hX X | intro hlen; unfold maxLen at hlen | apply And.intro; focus (first | omega | assumption | (repeat' apply And.intro) <;> first | omega | assumption)))
        refine ⟨by decide, ?_⟩
        (repeat (first | refine aSeq fun X hX => ?_ | refine aBlk ?_ | refine aSkip ?_ | (first | refine aExit ?_ | refine aRet ?_); try simp only [slx, ↓reduceIte, Nat.reduceEqDiff, reduceCtorEq] | (first | refine aReg ?_ | refine aDrE ?_ | refine aIf ?_); simp -implicitDefEqProofs only [forall_eq, ↓slp, slb, ↓reduceIte, reduceCtorEq, jA, jB, jC, jD, jE, jF, jG, jH, jI, jJ, jK, tfCeLm2, gd, hb, ux, gt_iff_lt, Int.reduceLT, Int.reduceBEq, e255] | refine hX _ _ ?_; clear hX X | clear hX X; refine hX _ _ ?_; clear hX X | clear hX X; clear hX X; refine hX _ _ ?_; clear hX X | intro hlen; unfold maxLen at hlen | apply And.intro; focus (first | omega | assumption | (repeat' apply And.intro) <;> first | omega | assumption)))
        refine callM (lend_any hp h1 3) ?_
        rintro v m2 ⟨rfl, hc2, h2⟩
        simp -implicitDefEqProofs only [↓slp, slb, ↓reduceIte, reduceCtorEq, jA, jB, jC, jD, jE, jF, jG, jH, jI, jJ, jK, tfCeLm2]
        (repeat (first | refine aSeq fun X hX => ?_ | refine aBlk ?_ | refine aSkip ?_ | (first | refine aExit ?_ | refine aRet ?_); try simp only [slx, ↓reduceIte, Nat.reduceEqDiff, reduceCtorEq] | (first | refine aReg ?_ | refine aDrE ?_ | refine aIf ?_); simp -implicitDefEqProofs only [forall_eq, ↓slp, slb, ↓reduceIte, reduceCtorEq, jA, jB, jC, jD, jE, jF, jG, jH, jI, jJ, jK, tfCeLm2] | refine hX _ _ ?_; clear hX X | clear hX X; refine hX _ _ ?_; clear hX X | clear hX X; clear hX X; refine hX _ _ ?_; clear hX X | intro hlen; unfold maxLen at hlen | apply And.intro; focus (first | omega | assumption | (repeat' apply And.intro) <;> first | omega | assumption)))
        simp only [aPost, Try.results39, aRes_n, aRes_t, aRes_c, pack_one, pack_two]
        exact leave_lm h2 (hc1.trans hc2) rfl ⟨hc1.trans hc2, .inr ⟨3, s1, 0, hE1, by omega, rfl, r32_0', h2⟩⟩
      | true =>
        rw [hb] at he
        rw [hnm, he] at hE1
        (repeat (first | refine aSeq fun X hX => ?_ | refine aBlk ?_ | refine aSkip ?_ | (first | refine aExit ?_ | refine aRet ?_); try simp only [slx, ↓reduceIte, Nat.reduceEqDiff, reduceCtorEq] | (first | refine aReg ?_ | refine aDrE ?_ | refine aIf ?_); simp -implicitDefEqProofs only [forall_eq, ↓slp, slb, ↓reduceIte, reduceCtorEq, jA, jB, jC, jD, jE, jF, jG, jH, jI, jJ, jK, tfCeLm2, k0, c8, hnm, gt_iff_lt, Int.reduceLT, Int.reduceBEq, e255] | refine hX _ _ ?_; clear hX X | clear hX X; refine hX _ _ ?_; clear hX X | clear hX X; clear hX X; refine hX _ _ ?_; clear hX X | intro hlen; unfold maxLen at hlen | apply And.intro; focus (first | omega | assumption | (repeat' apply And.intro) <;> first | omega | assumption)))
        refine ⟨by decide, ?_⟩
        (repeat (first | refine aSeq fun X hX => ?_ | refine aBlk ?_ | refine aSkip ?_ | (first | refine aExit ?_ | refine aRet ?_); try simp only [slx, ↓reduceIte, Nat.reduceEqDiff, reduceCtorEq] | (first | refine aReg ?_ | refine aDrE ?_ | refine aIf ?_); simp -implicitDefEqProofs only [forall_eq, ↓slp, slb, ↓reduceIte, reduceCtorEq, jA, jB, jC, jD, jE, jF, jG, jH, jI, jJ, jK, tfCeLm2, gd, hb, ux, gt_iff_lt, Int.reduceLT, Int.reduceBEq, e255] | refine hX _ _ ?_; clear hX X | clear hX X; refine hX _ _ ?_; clear hX X | clear hX X; clear hX X; refine hX _ _ ?_; clear hX X | intro hlen; unfold maxLen at hlen | apply And.intro; focus (first | omega | assumption | (repeat' apply And.intro) <;> first | omega | assumption)))
        simp only [aPost, Try.results39, aRes_n, aRes_t, aRes_c, pack_one, pack_two]
        exact leave_lm h1 hc1 rfl ⟨hc1, .inl ⟨vs 0, s1, hE1, rfl, env_find32 h32 he, h1⟩⟩
    · have n0 : (⟨#[118]⟩ ++ strOf [((97 + 1 : Nat) : Int)] : ByteArray) = ⟨#[118, 98]⟩ := by decide +kernel
      rw [show nmV 1 = ⟨#[118, 98]⟩ from n0] at hnm he
      have ux : IntKind.i64.wrap (IntKind.u8.wrap (((98 : UInt8).toNat : Int) - 97)) = 1 := rfl
      cases hb : bs 1 with
      | false =>
        rw [hb] at he
        rw [hnm, he] at hE1
        (repeat (first | refine aSeq fun X hX => ?_ | refine aBlk ?_ | refine aSkip ?_ | (first | refine aExit ?_ | refine aRet ?_); try simp only [slx, ↓reduceIte, Nat.reduceEqDiff, reduceCtorEq] | (first | refine aReg ?_ | refine aDrE ?_ | refine aIf ?_); simp -implicitDefEqProofs only [forall_eq, ↓slp, slb, ↓reduceIte, reduceCtorEq, jA, jB, jC, jD, jE, jF, jG, jH, jI, jJ, jK, tfCeLm2, k0, c8, hnm, gt_iff_lt, Int.reduceLT, Int.reduceBEq, e255] | refine hX _ _ ?_; clear hX X | clear hX X; refine hX _ _ ?_; clear hX X | clear hX X; clear hX X; refine hX _ _ ?_; clear hX X | intro hlen; unfold maxLen at hlen | apply And.intro; focus (first | omega | assumption | (repeat' apply And.intro) <;> first | omega | assumption)))
        refine ⟨by decide, ?_⟩
        (repeat (first | refine aSeq fun X hX => ?_ | refine aBlk ?_ | refine aSkip ?_ | (first | refine aExit ?_ | refine aRet ?_); try simp only [slx, ↓reduceIte, Nat.reduceEqDiff, reduceCtorEq] | (first | refine aReg ?_ | refine aDrE ?_ | refine aIf ?_); simp -implicitDefEqProofs only [forall_eq, ↓slp, slb, ↓reduceIte, reduceCtorEq, jA, jB, jC, jD, jE, jF, jG, jH, jI, jJ, jK, tfCeLm2, gd, hb, ux, gt_iff_lt, Int.reduceLT, Int.reduceBEq, e255] | refine hX _ _ ?_; clear hX X | clear hX X; refine hX _ _ ?_; clear hX X | clear hX X; clear hX X; refine hX _ _ ?_; clear hX X | intro hlen; unfold maxLen at hlen | apply And.intro; focus (first | omega | assumption | (repeat' apply And.intro) <;> first | omega | assumption)))
        refine callM (lend_any hp h1 3) ?_
        rintro v m2 ⟨rfl, hc2, h2⟩
        simp -implicitDefEqProofs only [↓slp, slb, ↓reduceIte, reduceCtorEq, jA, jB, jC, jD, jE, jF, jG, jH, jI, jJ, jK, tfCeLm2]
        (repeat (first | refine aSeq fun X hX => ?_ | refine aBlk ?_ | refine aSkip ?_ | (first | refine aExit ?_ | refine aRet ?_); try simp only [slx, ↓reduceIte, Nat.reduceEqDiff, reduceCtorEq] | (first | refine aReg ?_ | refine aDrE ?_ | refine aIf ?_); simp -implicitDefEqProofs only [forall_eq, ↓slp, slb, ↓reduceIte, reduceCtorEq, jA, jB, jC, jD, jE, jF, jG, jH, jI, jJ, jK, tfCeLm2] | refine hX _ _ ?_; clear hX X | clear hX X; refine hX _ _ ?_; clear hX X | clear hX X; clear hX X; refine hX _ _ ?_; clear hX X | intro hlen; unfold maxLen at hlen | apply And.intro; focus (first | omega | assumption | (repeat' apply And.intro) <;> first | omega | assumption)))
        simp only [aPost, Try.results39, aRes_n, aRes_t, aRes_c, pack_one, pack_two]
        exact leave_lm h2 (hc1.trans hc2) rfl ⟨hc1.trans hc2, .inr ⟨3, s1, 0, hE1, by omega, rfl, r32_0', h2⟩⟩
      | true =>
        rw [hb] at he
        rw [hnm, he] at hE1
        (repeat (first | refine aSeq fun X hX => ?_ | refine aBlk ?_ | refine aSkip ?_ | (first | refine aExit ?_ | refine aRet ?_); try simp only [slx, ↓reduceIte, Nat.reduceEqDiff, reduceCtorEq] | (first | refine aReg ?_ | refine aDrE ?_ | refine aIf ?_); simp -implicitDefEqProofs only [forall_eq, ↓slp, slb, ↓reduceIte, reduceCtorEq, jA, jB, jC, jD, jE, jF, jG, jH, jI, jJ, jK, tfCeLm2, k0, c8, hnm, gt_iff_lt, Int.reduceLT, Int.reduceBEq, e255] | refine hX _ _ ?_; clear hX X | clear hX X; refine hX _ _ ?_; clear hX X | clear hX X; clear hX X; refine hX _ _ ?_; clear hX X | intro hlen; unfold maxLen at hlen | apply And.intro; focus (first | omega | assumption | (repeat' apply And.intro) <;> first | omega | assumption)))
        refine ⟨by decide, ?_⟩
        (repeat (first | refine aSeq fun X hX => ?_ | refine aBlk ?_ | refine aSkip ?_ | (first | refine aExit ?_ | refine aRet ?_); try simp only [slx, ↓reduceIte, Nat.reduceEqDiff, reduceCtorEq] | (first | refine aReg ?_ | refine aDrE ?_ | refine aIf ?_); simp -implicitDefEqProofs only [forall_eq, ↓slp, slb, ↓reduceIte, reduceCtorEq, jA, jB, jC, jD, jE, jF, jG, jH, jI, jJ, jK, tfCeLm2, gd, hb, ux, gt_iff_lt, Int.reduceLT, Int.reduceBEq, e255] | refine hX _ _ ?_; clear hX X | clear hX X; refine hX _ _ ?_; clear hX X | clear hX X; clear hX X; refine hX _ _ ?_; clear hX X | intro hlen; unfold maxLen at hlen | apply And.intro; focus (first | omega | assumption | (repeat' apply And.intro) <;> first | omega | assumption)))
        simp only [aPost, Try.results39, aRes_n, aRes_t, aRes_c, pack_one, pack_two]
        exact leave_lm h1 hc1 rfl ⟨hc1, .inl ⟨vs 1, s1, hE1, rfl, env_find32 h32 he, h1⟩⟩
    · have n0 : (⟨#[118]⟩ ++ strOf [((97 + 2 : Nat) : Int)] : ByteArray) = ⟨#[118, 99]⟩ := by decide +kernel
      rw [show nmV 2 = ⟨#[118, 99]⟩ from n0] at hnm he
      have ux : IntKind.i64.wrap (IntKind.u8.wrap (((99 : UInt8).toNat : Int) - 97)) = 2 := rfl
      cases hb : bs 2 with
      | false =>
        rw [hb] at he
        rw [hnm, he] at hE1
        (repeat (first | refine aSeq fun X hX => ?_ | refine aBlk ?_ | refine aSkip ?_ | (first | refine aExit ?_ | refine aRet ?_); try simp only [slx, ↓reduceIte, Nat.reduceEqDiff, reduceCtorEq] | (first | refine aReg ?_ | refine aDrE ?_ | refine aIf ?_); simp -implicitDefEqProofs only [forall_eq, ↓slp, slb, ↓reduceIte, reduceCtorEq, jA, jB, jC, jD, jE, jF, jG, jH, jI, jJ, jK, tfCeLm2, k0, c8, hnm, gt_iff_lt, Int.reduceLT, Int.reduceBEq, e255] | refine hX _ _ ?_; clear hX X | clear hX X; refine hX _ _ ?_; clear hX X | clear hX X; clear hX X; refine hX _ _ ?_; clear hX X | intro hlen; unfold maxLen at hlen | apply And.intro; focus (first | omega | assumption | (repeat' apply And.intro) <;> first | omega | assumption)))
        refine ⟨by decide, ?_⟩
        (repeat (first | refine aSeq fun X hX => ?_ | refine aBlk ?_ | refine aSkip ?_ | (first | refine aExit ?_ | refine aRet ?_); try simp only [slx, ↓reduceIte, Nat.reduceEqDiff, reduceCtorEq] | (first | refine aReg ?_ | refine aDrE ?_ | refine aIf ?_); simp -implicitDefEqProofs only [forall_eq, ↓slp, slb, ↓reduceIte, reduceCtorEq, jA, jB, jC, jD, jE, jF, jG, jH, jI, jJ, jK, tfCeLm2, gd, hb, ux, gt_iff_lt, Int.reduceLT, Int.reduceBEq, e255] | refine hX _ _ ?_; clear hX X | clear hX X; refine hX _ _ ?_; clear hX X | clear hX X; clear hX X; refine hX _ _ ?_; clear hX X | intro hlen; unfold maxLen at hlen | apply And.intro; focus (first | omega | assumption | (repeat' apply And.intro) <;> first | omega | assumption)))
        refine callM (lend_any hp h1 3) ?_
        rintro v m2 ⟨rfl, hc2, h2⟩
        simp -implicitDefEqProofs only [↓slp, slb, ↓reduceIte, reduceCtorEq, jA, jB, jC, jD, jE, jF, jG, jH, jI, jJ, jK, tfCeLm2]
        (repeat (first | refine aSeq fun X hX => ?_ | refine aBlk ?_ | refine aSkip ?_ | (first | refine aExit ?_ | refine aRet ?_); try simp only [slx, ↓reduceIte, Nat.reduceEqDiff, reduceCtorEq] | (first | refine aReg ?_ | refine aDrE ?_ | refine aIf ?_); simp -implicitDefEqProofs only [forall_eq, ↓slp, slb, ↓reduceIte, reduceCtorEq, jA, jB, jC, jD, jE, jF, jG, jH, jI, jJ, jK, tfCeLm2] | refine hX _ _ ?_; clear hX X | clear hX X; refine hX _ _ ?_; clear hX X | clear hX X; clear hX X; refine hX _ _ ?_; clear hX X | intro hlen; unfold maxLen at hlen | apply And.intro; focus (first | omega | assumption | (repeat' apply And.intro) <;> first | omega | assumption)))
        simp only [aPost, Try.results39, aRes_n, aRes_t, aRes_c, pack_one, pack_two]
        exact leave_lm h2 (hc1.trans hc2) rfl ⟨hc1.trans hc2, .inr ⟨3, s1, 0, hE1, by omega, rfl, r32_0', h2⟩⟩
      | true =>
        rw [hb] at he
        rw [hnm, he] at hE1
        (repeat (first | refine aSeq fun X hX => ?_ | refine aBlk ?_ | refine aSkip ?_ | (first | refine aExit ?_ | refine aRet ?_); try simp only [slx, ↓reduceIte, Nat.reduceEqDiff, reduceCtorEq] | (first | refine aReg ?_ | refine aDrE ?_ | refine aIf ?_); simp -implicitDefEqProofs only [forall_eq, ↓slp, slb, ↓reduceIte, reduceCtorEq, jA, jB, jC, jD, jE, jF, jG, jH, jI, jJ, jK, tfCeLm2, k0, c8, hnm, gt_iff_lt, Int.reduceLT, Int.reduceBEq, e255] | refine hX _ _ ?_; clear hX X | clear hX X; refine hX _ _ ?_; clear hX X | clear hX X; clear hX X; refine hX _ _ ?_; clear hX X | intro hlen; unfold maxLen at hlen | apply And.intro; focus (first | omega | assumption | (repeat' apply And.intro) <;> first | omega | assumption)))
        refine ⟨by decide, ?_⟩
        (repeat (first | refine aSeq fun X hX => ?_ | refine aBlk ?_ | refine aSkip ?_ | (first | refine aExit ?_ | refine aRet ?_); try simp only [slx, ↓reduceIte, Nat.reduceEqDiff, reduceCtorEq] | (first | refine aReg ?_ | refine aDrE ?_ | refine aIf ?_); simp -implicitDefEqProofs only [forall_eq, ↓slp, slb, ↓reduceIte, reduceCtorEq, jA, jB, jC, jD, jE, jF, jG, jH, jI, jJ, jK, tfCeLm2, gd, hb, ux, gt_iff_lt, Int.reduceLT, Int.reduceBEq, e255] | refine hX _ _ ?_; clear hX X | clear hX X; refine hX _ _ ?_; clear hX X | clear hX X; clear hX X; refine hX _ _ ?_; clear hX X | intro hlen; unfold maxLen at hlen | apply And.intro; focus (first | omega | assumption | (repeat' apply And.intro) <;> first | omega | assumption)))
        simp only [aPost, Try.results39, aRes_n, aRes_t, aRes_c, pack_one, pack_two]
        exact leave_lm h1 hc1 rfl ⟨hc1, .inl ⟨vs 2, s1, hE1, rfl, env_find32 h32 he, h1⟩⟩
    · have n0 : (⟨#[118]⟩ ++ strOf [((97 + 3 : Nat) : Int)] : ByteArray) = ⟨#[118, 100]⟩ := by decide +kernel
      rw [show nmV 3 = ⟨#[118, 100]⟩ from n0] at hnm he
      have ux : IntKind.i64.wrap (IntKind.u8.wrap (((100 : UInt8).toNat : Int) - 97)) = 3 := rfl
      cases hb : bs 3 with
      | false =>
        rw [hb] at he
        rw [hnm, he] at hE1
        (repeat (first | refine aSeq fun X hX => ?_ | refine aBlk ?_ | refine aSkip ?_ | (first | refine aExit ?_ | refine aRet ?_); try simp only [slx, ↓reduceIte, Nat.reduceEqDiff, reduceCtorEq] | (first | refine aReg ?_ | refine aDrE ?_ | refine aIf ?_); simp -implicitDefEqProofs only [forall_eq, ↓slp, slb, ↓reduceIte, reduceCtorEq, jA, jB, jC, jD, jE, jF, jG, jH, jI, jJ, jK, tfCeLm2, k0, c8, hnm, gt_iff_lt, Int.reduceLT, Int.reduceBEq, e255] | refine hX _ _ ?_; clear hX X | clear hX X; refine hX _ _ ?_; clear hX X | clear hX X; clear hX X; refine hX _ _ ?_; clear hX X | intro hlen; unfold maxLen at hlen | apply And.intro; focus (first | omega | assumption | (repeat' apply And.intro) <;> first | omega | assumption)))
        refine ⟨by decide, ?_⟩
        (repeat (first | refine aSeq fun X hX => ?_ | refine aBlk ?_ | refine aSkip ?_ | (first | refine aExit ?_ | refine aRet ?_); try simp only [slx, ↓reduceIte, Nat.reduceEqDiff, reduceCtorEq] | (first | refine aReg ?_ | refine aDrE ?_ | refine aIf ?_); simp -implicitDefEqProofs only [forall_eq, ↓slp, slb, ↓reduceIte, reduceCtorEq, jA, jB, jC, jD, jE, jF, jG, jH, jI, jJ, jK, tfCeLm2, gd, hb, ux, gt_iff_lt, Int.reduceLT, Int.reduceBEq, e255] | refine hX _ _ ?_; clear hX X | clear hX X; refine hX _ _ ?_; clear hX X | clear hX X; clear hX X; refine hX _ _ ?_; clear hX X | intro hlen; unfold maxLen at hlen | apply And.intro; focus (first | omega | assumption | (repeat' apply And.intro) <;> first | omega | assumption)))
        refine callM (lend_any hp h1 3) ?_
        rintro v m2 ⟨rfl, hc2, h2⟩
        simp -implicitDefEqProofs only [↓slp, slb, ↓reduceIte, reduceCtorEq, jA, jB, jC, jD, jE, jF, jG, jH, jI, jJ, jK, tfCeLm2]
        (repeat (first | refine aSeq fun X hX => ?_ | refine aBlk ?_ | refine aSkip ?_ | (first | refine aExit ?_ | refine aRet ?_); try simp only [slx, ↓reduceIte, Nat.reduceEqDiff, reduceCtorEq] | (first | refine aReg ?_ | refine aDrE ?_ | refine aIf ?_); simp -implicitDefEqProofs only [forall_eq, ↓slp, slb, ↓reduceIte, reduceCtorEq, jA, jB, jC, jD, jE, jF, jG, jH, jI, jJ, jK, tfCeLm2] | refine hX _ _ ?_; clear hX X | clear hX X; refine hX _ _ ?_; clear hX X | clear hX X; clear hX X; refine hX _ _ ?_; clear hX X | intro hlen; unfold maxLen at hlen | apply And.intro; focus (first | omega | assumption | (repeat' apply And.intro) <;> first | omega | assumption)))
        simp only [aPost, Try.results39, aRes_n, aRes_t, aRes_c, pack_one, pack_two]
        exact leave_lm h2 (hc1.trans hc2) rfl ⟨hc1.trans hc2, .inr ⟨3, s1, 0, hE1, by omega, rfl, r32_0', h2⟩⟩
      | true =>
        rw [hb] at he
        rw [hnm, he] at hE1
        (repeat (first | refine aSeq fun X hX => ?_ | refine aBlk ?_ | refine aSkip ?_ | (first | refine aExit ?_ | refine aRet ?_); try simp only [slx, ↓reduceIte, Nat.reduceEqDiff, reduceCtorEq] | (first | refine aReg ?_ | refine aDrE ?_ | refine aIf ?_); simp -implicitDefEqProofs only [forall_eq, ↓slp, slb, ↓reduceIte, reduceCtorEq, jA, jB, jC, jD, jE, jF, jG, jH, jI, jJ, jK, tfCeLm2, k0, c8, hnm, gt_iff_lt, Int.reduceLT, Int.reduceBEq, e255] | refine hX _ _ ?_; clear hX X | clear hX X; refine hX _ _ ?_; clear hX X | clear hX X; clear hX X; refine hX _ _ ?_; clear hX X | intro hlen; unfold maxLen at hlen | apply And.intro; focus (first | omega | assumption | (repeat' apply And.intro) <;> first | omega | assumption)))
        refine ⟨by decide, ?_⟩
        (repeat (first | refine aSeq fun X hX => ?_ | refine aBlk ?_ | refine aSkip ?_ | (first | refine aExit ?_ | refine aRet ?_); try simp only [slx, ↓reduceIte, Nat.reduceEqDiff, reduceCtorEq] | (first | refine aReg ?_ | refine aDrE ?_ | refine aIf ?_); simp -implicitDefEqProofs only [forall_eq, ↓slp, slb, ↓reduceIte, reduceCtorEq, jA, jB, jC, jD, jE, jF, jG, jH, jI, jJ, jK, tfCeLm2, gd, hb, ux, gt_iff_lt, Int.reduceLT, Int.reduceBEq, e255] | refine hX _ _ ?_; clear hX X | clear hX X; refine hX _ _ ?_; clear hX X | clear hX X; clear hX X; refine hX _ _ ?_; clear hX X | intro hlen; unfold maxLen at hlen | apply And.intro; focus (first | omega | assumption | (repeat' apply And.intro) <;> first | omega | assumption)))
        simp only [aPost, Try.results39, aRes_n, aRes_t, aRes_c, pack_one, pack_two]
        exact leave_lm h1 hc1 rfl ⟨hc1, .inl ⟨vs 3, s1, hE1, rfl, env_find32 h32 he, h1⟩⟩
  · cases c8 : (((e.kids.length : Int)) == 0) with
    | false =>
      have h8 : e.kids.length ≠ wantN e.kind.toNat := by rw [k0]; show e.kids.length ≠ 0; intro hh; rw [hh] at c8; simp at c8
      simp -implicitDefEqProofs only [↓slp, slb, ↓reduceIte, reduceCtorEq, jA, jB, jC, jD, jE, jF, jG, jH, jI, jJ, jK, tfCeLm2]
      (repeat (first | refine aSeq fun X hX => ?_ | refine aBlk ?_ | refine aSkip ?_ | (first | refine aExit ?_ | refine aRet ?_); try simp only [slx, ↓reduceIte, Nat.reduceEqDiff, reduceCtorEq] | (first | refine aReg ?_ | refine aDrE ?_ | refine aIf ?_); simp -implicitDefEqProofs only [forall_eq, ↓slp, slb, ↓reduceIte, reduceCtorEq, jA, jB, jC, jD, jE, jF, jG, jH, jI, jJ, jK, tfCeLm2, k0, c8, gt_iff_lt, Int.reduceLT, Int.reduceBEq, e255] | refine hX _ _ ?_; clear hX X | clear hX X; refine hX _ _ ?_; clear hX X | clear hX X; clear hX X; refine hX _ _ ?_; clear hX X | intro hlen; unfold maxLen at hlen | apply And.intro; focus (first | omega | assumption | (repeat' apply And.intro) <;> first | omega | assumption)))
      refine callM (lend_any hp h1 6) ?_
      rintro v m2 ⟨rfl, hc2, h2⟩
      simp -implicitDefEqProofs only [↓slp, slb, ↓reduceIte, reduceCtorEq, jA, jB, jC, jD, jE, jF, jG, jH, jI, jJ, jK, tfCeLm2]
      (repeat (first | refine aSeq fun X hX => ?_ | refine aBlk ?_ | refine aSkip ?_ | (first | refine aExit ?_ | refine aRet ?_); try simp only [slx, ↓reduceIte, Nat.reduceEqDiff, reduceCtorEq] | (first | refine aReg ?_ | refine aDrE ?_ | refine aIf ?_); simp -implicitDefEqProofs only [forall_eq, ↓slp, slb, ↓reduceIte, reduceCtorEq, jA, jB, jC, jD, jE, jF, jG, jH, jI, jJ, jK, tfCeLm2] | refine hX _ _ ?_; clear hX X | clear hX X; refine hX _ _ ?_; clear hX X | clear hX X; clear hX X; refine hX _ _ ?_; clear hX X | intro hlen; unfold maxLen at hlen | apply And.intro; focus (first | omega | assumption | (repeat' apply And.intro) <;> first | omega | assumption)))
      simp only [aPost, Try.results39, aRes_n, aRes_t, aRes_c, pack_one, pack_two]
      exact leave_lm h2 (hc1.trans hc2) rfl (hfin6 (hnone (.inr (.inr ⟨hk0.1, h8⟩))) m2 hc2 h2)
    | true =>
    have h8 : e.kids.length = 0 := by have := eq_of_beq c8; omega
    rw [if_neg (by omega), if_neg (by omega), if_pos k0] at hE1
    have hkids : e.kids = [] := List.length_eq_zero_iff.1 h8
    rw [hkids] at hE1
    dsimp only at hE1
    simp -implicitDefEqProofs only [↓slp, slb, ↓reduceIte, reduceCtorEq, jA, jB, jC, jD, jE, jF, jG, jH, jI, jJ, jK, tfCeLm2]
    have gd := h1.gd
    have hlc := cell0 e.name s1
    obtain ⟨lc, hlc0⟩ : ∃ lc, lcell e.name = lc := ⟨_, rfl⟩
    rw [hlc0] at hlc
    rw [hlc] at hE1
    (repeat (first | refine aSeq fun X hX => ?_ | refine aBlk ?_ | refine aSkip ?_ | (first | refine aExit ?_ | refine aRet ?_); try simp only [slx, ↓reduceIte, Nat.reduceEqDiff, reduceCtorEq] | (first | refine aReg ?_ | refine aDrE ?_ | refine aIf ?_); simp -implicitDefEqProofs only [forall_eq, ↓slp, slb, ↓reduceIte, reduceCtorEq, jA, jB, jC, jD, jE, jF, jG, jH, jI, jJ, jK, tfCeLm2, k0, c8, gt_iff_lt, Int.reduceLT, Int.reduceBEq, e255] | refine hX _ _ ?_; clear hX X | clear hX X; refine hX _ _ ?_; clear hX X | clear hX X; clear hX X; refine hX _ _ ?_; clear hX X | intro hlen; unfold maxLen at hlen | apply And.intro; focus (first | omega | assumption | (repeat' apply And.intro) <;> first | omega | assumption)))
    refine callE (lcell_any e.name _) ?_
    rw [hlc0]
    cases cl : decide (lc < 0) with
    | true =>
      have hl0 : lc < 0 := by simpa using cl
      rw [if_pos (.inl hl0)] at hE1
      simp -implicitDefEqProofs only [↓slp, slb, ↓reduceIte, reduceCtorEq, jA, jB, jC, jD, jE, jF, jG, jH, jI, jJ, jK, tfCeLm2, cl]
      (repeat (first | refine aSeq fun X hX => ?_ | refine aBlk ?_ | refine aSkip ?_ | (first | refine aExit ?_ | refine aRet ?_); try simp only [slx, ↓reduceIte, Nat.reduceEqDiff, reduceCtorEq] | (first | refine aReg ?_ | refine aDrE ?_ | refine aIf ?_); simp -implicitDefEqProofs only [forall_eq, ↓slp, slb, ↓reduceIte, reduceCtorEq, jA, jB, jC, jD, jE, jF, jG, jH, jI, jJ, jK, tfCeLm2, cl, gd] | refine hX _ _ ?_; clear hX X | clear hX X; refine hX _ _ ?_; clear hX X | clear hX X; clear hX X; refine hX _ _ ?_; clear hX X | intro hlen; unfold maxLen at hlen | apply And.intro; focus (first | omega | assumption | (repeat' apply And.intro) <;> first | omega | assumption)))
      refine callM (lend_any hp h1 2) ?_
      rintro v m2 ⟨rfl, hc2, h2⟩
      simp -implicitDefEqProofs only [↓slp, slb, ↓reduceIte, reduceCtorEq, jA, jB, jC, jD, jE, jF, jG, jH, jI, jJ, jK, tfCeLm2]
      (repeat (first | refine aSeq fun X hX => ?_ | refine aBlk ?_ | refine aSkip ?_ | (first | refine aExit ?_ | refine aRet ?_); try simp only [slx, ↓reduceIte, Nat.reduceEqDiff, reduceCtorEq] | (first | refine aReg ?_ | refine aDrE ?_ | refine aIf ?_); simp -implicitDefEqProofs only [forall_eq, ↓slp, slb, ↓reduceIte, reduceCtorEq, jA, jB, jC, jD, jE, jF, jG, jH, jI, jJ, jK, tfCeLm2] | refine hX _ _ ?_; clear hX X | clear hX X; refine hX _ _ ?_; clear hX X | clear hX X; clear hX X; refine hX _ _ ?_; clear hX X | intro hlen; unfold maxLen at hlen | apply And.intro; focus (first | omega | assumption | (repeat' apply And.intro) <;> first | omega | assumption)))
      simp only [aPost, Try.results39, aRes_n, aRes_t, aRes_c, pack_one, pack_two]
      exact leave_lm h2 (hc1.trans hc2) rfl ⟨hc1.trans hc2, .inr ⟨2, s1, 0, hE1, by omega, rfl, r32_0', h2⟩⟩
    | false =>
    have hl0 : ¬ lc < 0 := by simpa using cl
    cases cg : decide (lc ≥ (s1.mem.length : Int)) with
    | true =>
      have hl1 : lc ≥ (s1.mem.length : Int) := by simpa using cg
      rw [if_pos (.inr hl1)] at hE1
      simp -implicitDefEqProofs only [↓slp, slb, ↓reduceIte, reduceCtorEq, jA, jB, jC, jD, jE, jF, jG, jH, jI, jJ, jK, tfCeLm2, cl]
      (repeat (first | refine aSeq fun X hX => ?_ | refine aBlk ?_ | refine aSkip ?_ | (first | refine aExit ?_ | refine aRet ?_); try simp only [slx, ↓reduceIte, Nat.reduceEqDiff, reduceCtorEq] | (first | refine aReg ?_ | refine aDrE ?_ | refine aIf ?_); simp -implicitDefEqProofs only [forall_eq, ↓slp, slb, ↓reduceIte, reduceCtorEq, jA, jB, jC, jD, jE, jF, jG, jH, jI, jJ, jK, tfCeLm2, cl, gd, cg] | refine hX _ _ ?_; clear hX X | clear hX X; refine hX _ _ ?_; clear hX X | clear hX X; clear hX X; refine hX _ _ ?_; clear hX X | intro hlen; unfold maxLen at hlen | apply And.intro; focus (first | omega | assumption | (repeat' apply And.intro) <;> first | omega | assumption)))
      refine callM (lend_any hp h1 2) ?_
      rintro v m2 ⟨rfl, hc2, h2⟩
      simp -implicitDefEqProofs only [↓slp, slb, ↓reduceIte, reduceCtorEq, jA, jB, jC, jD, jE, jF, jG, jH, jI, jJ, jK, tfCeLm2]
      (repeat (first | refine aSeq fun X hX => ?_ | refine aBlk ?_ | refine aSkip ?_ | (first | refine aExit ?_ | refine aRet ?_); try simp only [slx, ↓reduceIte, Nat.reduceEqDiff, reduceCtorEq] | (first | refine aReg ?_ | refine aDrE ?_ | refine aIf ?_); simp -implicitDefEqProofs only [forall_eq, ↓slp, slb, ↓reduceIte, reduceCtorEq, jA, jB, jC, jD, jE, jF, jG, jH, jI, jJ, jK, tfCeLm2] | refine hX _ _ ?_; clear hX X | clear hX X; refine hX _ _ ?_; clear hX X | clear hX X; clear hX X; refine hX _ _ ?_; clear hX X | intro hlen; unfold maxLen at hlen | apply And.intro; focus (first | omega | assumption | (repeat' apply And.intro) <;> first | omega | assumption)))
      simp only [aPost, Try.results39, aRes_n, aRes_t, aRes_c, pack_one, pack_two]
      exact leave_lm h2 (hc1.trans hc2) rfl ⟨hc1.trans hc2, .inr ⟨2, s1, 0, hE1, by omega, rfl, r32_0', h2⟩⟩
    | false =>
    have hl1 : ¬ lc ≥ (s1.mem.length : Int) := by simpa using cg
    rw [if_neg (by omega)] at hE1
    obtain ⟨k, rfl⟩ : ∃ k : Nat, lc = (k : Int) := ⟨lc.toNat, by omega⟩
    rw [Int.toNat_natCast] at hE1
    have hkl : k < s1.mem.length := by omega
    have hkt : k < s1.tch.length := by rw [h1.tlen]; exact hkl
    have gt := h1.gt
    have gm := h1.gm
    have h2 := h1.touch hp k
    have hset : List.take (0 + k * 1) (tchB s1.tch) ++ [PV.v (.bool true)] ++ List.drop (0 + k * 1 + 1) (tchB s1.tch) = tchB (s1.tch.set k true) := by
      rw [List.set_eq_take_append_cons_drop, if_pos hkt]
      simp
    have e0 : 0 + k * 1 = k := by omega
    have hlt' : (tchB s1.tch).length = s1.mem.length := by simp [h1.tlen]
    have hlm : (memB s1.mem).length = s1.mem.length := by simp
    have gx : (memB s1.mem).getD k .junk = pJ s1.mem[k] := by simp [hkl]
    have gd2 : ∀ c, (m1.upd p.dt c).get p.did = some _ := fun c => (get_upd_ne hp.n2).trans gd
    have gm2 : ∀ c, (m1.upd p.dt c).get p.dm = some _ := fun c => (get_upd_ne hp.n3).trans gm
    simp -implicitDefEqProofs only [↓slp, slb, ↓reduceIte, reduceCtorEq, jA, jB, jC, jD, jE, jF, jG, jH, jI, jJ, jK, tfCeLm2, cl]
    (repeat (first | refine aSeq fun X hX => ?_ | refine aBlk ?_ | refine aSkip ?_ | (first | refine aExit ?_ | refine aRet ?_); try simp only [slx, ↓reduceIte, Nat.reduceEqDiff, reduceCtorEq] | (first | refine aReg ?_ | refine aDrE ?_ | refine aIf ?_); simp -implicitDefEqProofs only [forall_eq, ↓slp, slb, ↓reduceIte, reduceCtorEq, jA, jB, jC, jD, jE, jF, jG, jH, jI, jJ, jK, tfCeLm2, cl, gd, cg, gt, hlt'] | refine hX _ _ ?_; clear hX X | clear hX X; refine hX _ _ ?_; clear hX X | clear hX X; clear hX X; refine hX _ _ ?_; clear hX X | intro hlen; unfold maxLen at hlen | apply And.intro; focus (first | omega | assumption | (repeat' apply And.intro) <;> first | omega | assumption)))
    rw [hset]
    simp -implicitDefEqProofs only [↓slp, slb, ↓reduceIte, reduceCtorEq, jA, jB, jC, jD, jE, jF, jG, jH, jI, jJ, jK, tfCeLm2, gd2, gm2, e0, gx, hlm]
    refine ⟨hkl, hkl, ?_⟩
    (repeat (first | refine aSeq fun X hX => ?_ | refine aBlk ?_ | refine aSkip ?_ | (first | refine aExit ?_ | refine aRet ?_); try simp only [slx, ↓reduceIte, Nat.reduceEqDiff, reduceCtorEq] | (first | refine aReg ?_ | refine aDrE ?_ | refine aIf ?_); simp -implicitDefEqProofs only [forall_eq, ↓slp, slb, ↓reduceIte, reduceCtorEq, jA, jB, jC, jD, jE, jF, jG, jH, jI, jJ, jK, tfCeLm2] | refine hX _ _ ?_; clear hX X | clear hX X; refine hX _ _ ?_; clear hX X | clear hX X; clear hX X; refine hX _ _ ?_; clear hX X | intro hlen; unfold maxLen at hlen | apply And.intro; focus (first | omega | assumption | (repeat' apply And.intro) <;> first | omega | assumption)))
    simp only [aPost, Try.results39, aRes_n, aRes_t, aRes_c, pack_one, pack_two]
    exact leave_lm h2 (hc1.trans (chg_t _)) rfl ⟨hc1.trans (chg_t _), .inl ⟨s1.mem[k], _, (by rw [hE1]; show CRn.ok (s1.mem.getD k 0) _ = _; rw [show s1.mem.getD k 0 = s1.mem[k] by simp [hkl]]), rfl, h1.m32 _ (List.getElem_mem hkl), h2⟩⟩
  · cases c8 : (((e.kids.length : Int)) == 1) with
    | false =>
      have h8 : e.kids.length ≠ wantN e.kind.toNat := by rw [k0]; show e.kids.length ≠ 1; intro hh; rw [hh] at c8; simp at c8
      simp -implicitDefEqProofs only [↓slp, slb, ↓reduceIte, reduceCtorEq, jA, jB, jC, jD, jE, jF, jG, jH, jI, jJ, jK, tfCeLm2]
      (repeat (first | refine aSeq fun X hX => ?_ | refine aBlk ?_ | refine aSkip ?_ | (first | refine aExit ?_ | refine aRet ?_); try simp only [slx, ↓reduceIte, Nat.reduceEqDiff, reduceCtorEq] | (first | refine aReg ?_ | refine aDrE ?_ | refine aIf ?_); simp -implicitDefEqProofs only [forall_eq, ↓slp, slb, ↓reduceIte, reduceCtorEq, jA, jB, jC, jD, jE, jF, jG, jH, jI, jJ, jK, tfCeLm2, k0, c8, gt_iff_lt, Int.reduceLT, Int.reduceBEq, e255] | refine hX _ _ ?_; clear hX X | clear hX X; refine hX _ _ ?_; clear hX X | clear hX X; clear hX X; refine hX _ _ ?_; clear hX X | intro hlen; unfold maxLen at hlen | apply And.intro; focus (first | omega | assumption | (repeat' apply And.intro) <;> first | omega | assumption)))
      refine callM (lend_any hp h1 6) ?_
      rintro v m2 ⟨rfl, hc2, h2⟩
      simp -implicitDefEqProofs only [↓slp, slb, ↓reduceIte, reduceCtorEq, jA, jB, jC, jD, jE, jF, jG, jH, jI, jJ, jK, tfCeLm2]
      (repeat (first | refine aSeq fun X hX => ?_ | refine aBlk ?_ | refine aSkip ?_ | (first | refine aExit ?_ | refine aRet ?_); try simp only [slx, ↓reduceIte, Nat.reduceEqDiff, reduceCtorEq] | (first | refine aReg ?_ | refine aDrE ?_ | refine aIf ?_); simp -implicitDefEqProofs only [forall_eq, ↓slp, slb, ↓reduceIte, reduceCtorEq, jA, jB, jC, jD, jE, jF, jG, jH, jI, jJ, jK, tfCeLm2] | refine hX _ _ ?_; clear hX X | clear hX X; refine hX _ _ ?_; clear hX X | clear hX X; clear hX X; refine hX _ _ ?_; clear hX X | intro hlen; unfold maxLen at hlen | apply And.intro; focus (first | omega | assumption | (repeat' apply And.intro) <;> first | omega | assumption)))
      simp only [aPost, Try.results39, aRes_n, aRes_t, aRes_c, pack_one, pack_two]
      exact leave_lm h2 (hc1.trans hc2) rfl (hfin6 (hnone (.inr (.inr ⟨hk0.1, h8⟩))) m2 hc2 h2)
    | true =>
    have h8 : e.kids.length = 1 := by have := eq_of_beq c8; omega
    rw [if_neg (by omega), if_neg (by omega), if_neg (by omega), if_pos k0] at hE1
    obtain ⟨a, hkids⟩ := List.length_eq_one_iff.1 h8
    have iA : ValC a := by have := ih 0 (by rw [hkids]; simp); simpa [hkids] using this
    rw [hkids] at hE1
    dsimp only at hE1
    simp -implicitDefEqProofs only [↓slp, slb, ↓reduceIte, reduceCtorEq, jA, jB, jC, jD, jE, jF, jG, jH, jI, jJ, jK, tfCeLm2]
    (repeat (first | refine aSeq fun X hX => ?_ | refine aBlk ?_ | refine aSkip ?_ | (first | refine aExit ?_ | refine aRet ?_); try simp only [slx, ↓reduceIte, Nat.reduceEqDiff, reduceCtorEq] | (first | refine aReg ?_ | refine aIf ?_); simp -implicitDefEqProofs only [forall_eq, ↓slp, slb, ↓reduceIte, reduceCtorEq, jA, jB, jC, jD, jE, jF, jG, jH, jI, jJ, jK, tfCeLm2, k0, c8, gt_iff_lt, Int.reduceLT, Int.reduceBEq, e255] | refine hX _ _ ?_; clear hX X | clear hX X; refine hX _ _ ?_; clear hX X | clear hX X; clear hX X; refine hX _ _ ?_; clear hX X | intro hlen; unfold maxLen at hlen | apply And.intro; focus (first | omega | assumption | (repeat' apply And.intro) <;> first | omega | assumption)))
    refine aDrw (fun _ => True) (by kernel_rfl) trivial ?_
    simp -implicitDefEqProofs only [↓slp, slb, ↓reduceIte, reduceCtorEq, jA, jB, jC, jD, jE, jF, jG, jH, jI, jJ, jK, tfCeLm2, hkids]
    refine callM (iA p vs bs s1 env m1 hp h1 hE h32) ?_
    rintro v m2 ⟨hc2, ⟨x, s2, hx, rfl, hx32, h2⟩ | ⟨hw, s2, x, hx, hw255, rfl, hx32, h2⟩⟩
    · have hx' : evalC unN binN progL sS 0 env a s1 = .ok x s2 := hx
      rw [CRn.bind_ok hx'] at hE1
      refine ⟨trivial, ?_⟩
      simp -implicitDefEqProofs only [↓slp, slb, ↓reduceIte, reduceCtorEq, jA, jB, jC, jD, jE, jF, jG, jH, jI, jJ, jK, tfCeLm2]
      refine callE (refUn_any e.op x hx32 m2) ?_
      simp -implicitDefEqProofs only [↓slp, slb, ↓reduceIte, reduceCtorEq, jA, jB, jC, jD, jE, jF, jG, jH, jI, jJ, jK, tfCeLm2]
      (repeat (first | refine aSeq fun X hX => ?_ | refine aBlk ?_ | refine aSkip ?_ | (first | refine aExit ?_ | refine aRet ?_); try simp only [slx, ↓reduceIte, Nat.reduceEqDiff, reduceCtorEq] | (first | refine aReg ?_ | refine aDrE ?_ | refine aIf ?_); simp -implicitDefEqProofs only [forall_eq, ↓slp, slb, ↓reduceIte, reduceCtorEq, jA, jB, jC, jD, jE, jF, jG, jH, jI, jJ, jK, tfCeLm2] | refine hX _ _ ?_; clear hX X | clear hX X; refine hX _ _ ?_; clear hX X | clear hX X; clear hX X; refine hX _ _ ?_; clear hX X | intro hlen; unfold maxLen at hlen | apply And.intro; focus (first | omega | assumption | (repeat' apply And.intro) <;> first | omega | assumption)))
      simp only [aPost, Try.results39, aRes_n, aRes_t, aRes_c, pack_one, pack_two]
      exact leave_lm h2 (hc1.trans hc2) rfl ⟨hc1.trans hc2, .inl ⟨_, s2, hE1, rfl, unN_bd _ _, h2⟩⟩
    · have hx' : evalC unN binN progL sS 0 env a s1 = .bad hw s2 := hx
      rw [CRn.bind_bad hx'] at hE1
      refine ⟨trivial, ?_⟩
      simp -implicitDefEqProofs only [↓slp, slb, ↓reduceIte, reduceCtorEq, jA, jB, jC, jD, jE, jF, jG, jH, jI, jJ, jK, tfCeLm2]
      refine callE (refUn_any e.op x hx32 m2) ?_
      simp -implicitDefEqProofs only [↓slp, slb, ↓reduceIte, reduceCtorEq, jA, jB, jC, jD, jE, jF, jG, jH, jI, jJ, jK, tfCeLm2]
      (repeat (first | refine aSeq fun X hX => ?_ | refine aBlk ?_ | refine aSkip ?_ | (first | refine aExit ?_ | refine aRet ?_); try simp only [slx, ↓reduceIte, Nat.reduceEqDiff, reduceCtorEq] | (first | refine aReg ?_ | refine aDrE ?_ | refine aIf ?_); simp -implicitDefEqProofs only [forall_eq, ↓slp, slb, ↓reduceIte, reduceCtorEq, jA, jB, jC, jD, jE, jF, jG, jH, jI, jJ, jK, tfCeLm2] | refine hX _ _ ?_; clear hX X | clear hX X; refine hX _ _ ?_; clear hX X | clear hX X; clear hX X; refine hX _ _ ?_; clear hX X | intro hlen; unfold maxLen at hlen | apply And.intro; focus (first | omega | assumption | (repeat' apply And.intro) <;> first | omega | assumption)))
      simp only [aPost, Try.results39, aRes_n, aRes_t, aRes_c, pack_one, pack_two]
      exact leave_lm h2 (hc1.trans hc2) rfl ⟨hc1.trans hc2, .inr ⟨hw, s2, _, hE1, hw255, rfl, unN_bd _ _, h2⟩⟩
  · cases c8 : (((e.kids.length : Int)) == 2) with
    | false =>
      have h8 : e.kids.length ≠ wantN e.kind.toNat := by rw [k0]; show e.kids.length ≠ 2; intro hh; rw [hh] at c8; simp at c8
      simp -implicitDefEqProofs only [↓slp, slb, ↓reduceIte, reduceCtorEq, jA, jB, jC, jD, jE, jF, jG, jH, jI, jJ, jK, tfCeLm2]
      (repeat (first | refine aSeq fun X hX => ?_ | refine aBlk ?_ | refine aSkip ?_ | (first | refine aExit ?_ | refine aRet ?_); try simp only [slx, ↓reduceIte, Nat.reduceEqDiff, reduceCtorEq] | (first | refine aReg ?_ | refine aDrE ?_ | refine aIf ?_); simp -implicitDefEqProofs only [forall_eq, ↓slp, slb, ↓reduceIte, reduceCtorEq, jA, jB, jC, jD, jE, jF, jG, jH, jI, jJ, jK, tfCeLm2, k0, c8, gt_iff_lt, Int.reduceLT, Int.reduceBEq, e255] | refine hX _ _ ?_; clear hX X | clear hX X; refine hX _ _ ?_; clear hX X | clear hX X; clear hX X; refine hX _ _ ?_; clear hX X | intro hlen; unfold maxLen at hlen | apply And.intro; focus (first | omega | assumption | (repeat' apply And.intro) <;> first | omega | assumption)))
      refine callM (lend_any hp h1 6) ?_
      rintro v m2 ⟨rfl, hc2, h2⟩
      simp -implicitDefEqProofs only [↓slp, slb, ↓reduceIte, reduceCtorEq, jA, jB, jC, jD, jE, jF, jG, jH, jI, jJ, jK, tfCeLm2]
      (repeat (first | refine aSeq fun X hX => ?_ | refine aBlk ?_ | refine aSkip ?_ | (first | refine aExit ?_ | refine aRet ?_); try simp only [slx, ↓reduceIte, Nat.reduceEqDiff, reduceCtorEq] | (first | refine aReg ?_ | refine aDrE ?_ | refine aIf ?_); simp -implicitDefEqProofs only [forall_eq, ↓slp, slb, ↓reduceIte, reduceCtorEq, jA, jB, jC, jD, jE, jF, jG, jH, jI, jJ, jK, tfCeLm2] | refine hX _ _ ?_; clear hX X | clear hX X; refine hX _ _ ?_; clear hX X | clear hX X; clear hX X; refine hX _ _ ?_; clear hX X | intro hlen; unfold maxLen at hlen | apply And.intro; focus (first | omega | assumption | (repeat' apply And.intro) <;> first | omega | assumption)))
      simp only [aPost, Try.results39, aRes_n, aRes_t, aRes_c, pack_one, pack_two]
      exact leave_lm h2 (hc1.trans hc2) rfl (hfin6 (hnone (.inr (.inr ⟨hk0.1, h8⟩))) m2 hc2 h2)
    | true =>
    have h8 : e.kids.length = 2 := by have := eq_of_beq c8; omega
    rw [if_neg (by omega), if_neg (by omega), if_neg (by omega), if_neg (by omega), if_pos k0] at hE1
    have e2n : ((2 : Nat) : Int) = 2 := rfl
    obtain ⟨a, b, hkids⟩ := len2 h8
    have iA : ValC a := by have := ih 0 (by rw [hkids]; simp); simpa [hkids] using this
    have iB : ValC b := by have := ih 1 (by rw [hkids]; simp); simpa [hkids] using this
    rw [hkids] at hE1
    dsimp only at hE1
    simp -implicitDefEqProofs only [↓slp, slb, ↓reduceIte, reduceCtorEq, jA, jB, jC, jD, jE, jF, jG, jH, jI, jJ, jK, tfCeLm2]
    (repeat (first | refine aSeq fun X hX => ?_ | refine aBlk ?_ | refine aSkip ?_ | (first | refine aExit ?_ | refine aRet ?_); try simp only [slx, ↓reduceIte, Nat.reduceEqDiff, reduceCtorEq] | (first | refine aReg ?_ | refine aIf ?_); simp -implicitDefEqProofs only [forall_eq, ↓slp, slb, ↓reduceIte, reduceCtorEq, jA, jB, jC, jD, jE, jF, jG, jH, jI, jJ, jK, tfCeLm2, k0, hkids, e2n, gt_iff_lt, Int.reduceLT, Int.reduceBEq, e255] | refine hX _ _ ?_; clear hX X | clear hX X; refine hX _ _ ?_; clear hX X | clear hX X; clear hX X; refine hX _ _ ?_; clear hX X | intro hlen; unfold maxLen at hlen | apply And.intro; focus (first | omega | assumption | (repeat' apply And.intro) <;> first | omega | assumption)))
    refine callM (iA p vs bs s1 env m1 hp h1 hE h32) ?_
    rintro v m2 ⟨hc2, ⟨x, s2, hx, rfl, hx32, h2⟩ | ⟨hw, s2, x, hx, hw255, rfl, hx32, h2⟩⟩
    · have hx' : evalC unN binN progL sS 0 env a s1 = .ok x s2 := hx
      rw [CRn.bind_ok hx'] at hE1
      simp -implicitDefEqProofs only [↓slp, slb, ↓reduceIte, reduceCtorEq, jA, jB, jC, jD, jE, jF, jG, jH, jI, jJ, jK, tfCeLm2]
      (repeat (first | refine aSeq fun X hX => ?_ | refine aBlk ?_ | refine aSkip ?_ | (first | refine aExit ?_ | refine aRet ?_); try simp only [slx, ↓reduceIte, Nat.reduceEqDiff, reduceCtorEq] | (first | refine aReg ?_ | refine aIf ?_); simp -implicitDefEqProofs only [forall_eq, ↓slp, slb, ↓reduceIte, reduceCtorEq, jA, jB, jC, jD, jE, jF, jG, jH, jI, jJ, jK, tfCeLm2] | refine hX _ _ ?_; clear hX X | clear hX X; refine hX _ _ ?_; clear hX X | clear hX X; clear hX X; refine hX _ _ ?_; clear hX X | intro hlen; unfold maxLen at hlen | apply And.intro; focus (first | omega | assumption | (repeat' apply And.intro) <;> first | omega | assumption)))
      refine aDrw (fun _ => True) (by kernel_rfl) trivial ?_
      simp -implicitDefEqProofs only [↓slp, slb, ↓reduceIte, reduceCtorEq, jA, jB, jC, jD, jE, jF, jG, jH, jI, jJ, jK, tfCeLm2, hkids]
      refine callM (iB p vs bs s2 env m2 hp h2 hE h32) ?_
      rintro v m3 ⟨hc3, ⟨y, s3, hy, rfl, hy32, h3⟩ | ⟨hw, s3, y, hy, hw255, rfl, hy32, h3⟩⟩
      · have hy' : evalC unN binN progL sS 0 env b s2 = .ok y s3 := hy
        rw [CRn.bind_ok hy'] at hE1
        refine ⟨trivial, ?_⟩
        simp -implicitDefEqProofs only [↓slp, slb, ↓reduceIte, reduceCtorEq, jA, jB, jC, jD, jE, jF, jG, jH, jI, jJ, jK, tfCeLm2]
        refine callE (refBin_any e.op x y hx32 hy32 m3) ?_
        simp -implicitDefEqProofs only [↓slp, slb, ↓reduceIte, reduceCtorEq, jA, jB, jC, jD, jE, jF, jG, jH, jI, jJ, jK, tfCeLm2]
        (repeat (first | refine aSeq fun X hX => ?_ | refine aBlk ?_ | refine aSkip ?_ | (first | refine aExit ?_ | refine aRet ?_); try simp only [slx, ↓reduceIte, Nat.reduceEqDiff, reduceCtorEq] | (first | refine aReg ?_ | refine aDrE ?_ | refine aIf ?_); simp -implicitDefEqProofs only [forall_eq, ↓slp, slb, ↓reduceIte, reduceCtorEq, jA, jB, jC, jD, jE, jF, jG, jH, jI, jJ, jK, tfCeLm2] | refine hX _ _ ?_; clear hX X | clear hX X; refine hX _ _ ?_; clear hX X | clear hX X; clear hX X; refine hX _ _ ?_; clear hX X | intro hlen; unfold maxLen at hlen | apply And.intro; focus (first | omega | assumption | (repeat' apply And.intro) <;> first | omega | assumption)))
        simp only [aPost, Try.results39, aRes_n, aRes_t, aRes_c, pack_one, pack_two]
        exact leave_lm h3 ((hc1.trans hc2).trans hc3) rfl ⟨(hc1.trans hc2).trans hc3, .inl ⟨_, s3, hE1, rfl, binN_bd _ _ _ hx32, h3⟩⟩
      · have hy' : evalC unN binN progL sS 0 env b s2 = .bad hw s3 := hy
        rw [CRn.bind_bad hy'] at hE1
        refine ⟨trivial, ?_⟩
        simp -implicitDefEqProofs only [↓slp, slb, ↓reduceIte, reduceCtorEq, jA, jB, jC, jD, jE, jF, jG, jH, jI, jJ, jK, tfCeLm2]
        refine callE (refBin_any e.op x y hx32 hy32 m3) ?_
        simp -implicitDefEqProofs only [↓slp, slb, ↓reduceIte, reduceCtorEq, jA, jB, jC, jD, jE, jF, jG, jH, jI, jJ, jK, tfCeLm2]
        (repeat (first | refine aSeq fun X hX => ?_ | refine aBlk ?_ | refine aSkip ?_ | (first | refine aExit ?_ | refine aRet ?_); try simp only [slx, ↓reduceIte, Nat.reduceEqDiff, reduceCtorEq] | (first | refine aReg ?_ | refine aDrE ?_ | refine aIf ?_); simp -implicitDefEqProofs only [forall_eq, ↓slp, slb, ↓reduceIte, reduceCtorEq, jA, jB, jC, jD, jE, jF, jG, jH, jI, jJ, jK, tfCeLm2] | refine hX _ _ ?_; clear hX X | clear hX X; refine hX _ _ ?_; clear hX X | clear hX X; clear hX X; refine hX _ _ ?_; clear hX X | intro hlen; unfold maxLen at hlen | apply And.intro; focus (first | omega | assumption | (repeat' apply And.intro) <;> first | omega | assumption)))
        simp only [aPost, Try.results39, aRes_n, aRes_t, aRes_c, pack_one, pack_two]
        exact leave_lm h3 ((hc1.trans hc2).trans hc3) rfl ⟨(hc1.trans hc2).trans hc3, .inr ⟨hw, s3, _, hE1, hw255, rfl, binN_bd _ _ _ hx32, h3⟩⟩
    · have hx' : evalC unN binN progL sS 0 env a s1 = .bad hw s2 := hx
      rw [CRn.bind_bad hx'] at hE1
      simp -implicitDefEqProofs only [↓slp, slb, ↓reduceIte, reduceCtorEq, jA, jB, jC, jD, jE, jF, jG, jH, jI, jJ, jK, tfCeLm2]
      (repeat (first | refine aSeq fun X hX => ?_ | refine aBlk ?_ | refine aSkip ?_ | (first | refine aExit ?_ | refine aRet ?_); try simp only [slx, ↓reduceIte, Nat.reduceEqDiff, reduceCtorEq] | (first | refine aReg ?_ | refine aIf ?_); simp -implicitDefEqProofs only [forall_eq, ↓slp, slb, ↓reduceIte, reduceCtorEq, jA, jB, jC, jD, jE, jF, jG, jH, jI, jJ, jK, tfCeLm2] | refine hX _ _ ?_; clear hX X | clear hX X; refine hX _ _ ?_; clear hX X | clear hX X; clear hX X; refine hX _ _ ?_; clear hX X | intro hlen; unfold maxLen at hlen | apply And.intro; focus (first | omega | assumption | (repeat' apply And.intro) <;> first | omega | assumption)))
      refine aDrw (fun _ => True) (by kernel_rfl) trivial ?_
      simp -implicitDefEqProofs only [↓slp, slb, ↓reduceIte, reduceCtorEq, jA, jB, jC, jD, jE, jF, jG, jH, jI, jJ, jK, tfCeLm2, hkids]
      refine callE (val_no h2 (by omega) b) ?_
      refine ⟨trivial, ?_⟩
      simp -implicitDefEqProofs only [↓slp, slb, ↓reduceIte, reduceCtorEq, jA, jB, jC, jD, jE, jF, jG, jH, jI, jJ, jK, tfCeLm2]
      refine callE (refBin_any e.op x 0 hx32 r32_0' m2) ?_
      simp -implicitDefEqProofs only [↓slp, slb, ↓reduceIte, reduceCtorEq, jA, jB, jC, jD, jE, jF, jG, jH, jI, jJ, jK, tfCeLm2]
      (repeat (first | refine aSeq fun X hX => ?_ | refine aBlk ?_ | refine aSkip ?_ | (first | refine aExit ?_ | refine aRet ?_); try simp only [slx, ↓reduceIte, Nat.reduceEqDiff, reduceCtorEq] | (first | refine aReg ?_ | refine aDrE ?_ | refine aIf ?_); simp -implicitDefEqProofs only [forall_eq, ↓slp, slb, ↓reduceIte, reduceCtorEq, jA, jB, jC, jD, jE, jF, jG, jH, jI, jJ, jK, tfCeLm2] | refine hX _ _ ?_; clear hX X | clear hX X; refine hX _ _ ?_; clear hX X | clear hX X; clear hX X; refine hX _ _ ?_; clear hX X | intro hlen; unfold maxLen at hlen | apply And.intro; focus (first | omega | assumption | (repeat' apply And.intro) <;> first | omega | assumption)))
      simp only [aPost, Try.results39, aRes_n, aRes_t, aRes_c, pack_one, pack_two]
      exact leave_lm h2 (hc1.trans hc2) rfl ⟨hc1.trans hc2, .inr ⟨hw, s2, _, hE1, hw255, rfl, binN_bd _ _ _ hx32, h2⟩⟩
  · cases c8 : (((e.kids.length : Int)) == 3) with
    | false =>
      have h8 : e.kids.length ≠ wantN e.kind.toNat := by rw [k0]; show e.kids.length ≠ 3; intro hh; rw [hh] at c8; simp at c8
      simp -implicitDefEqProofs only [↓slp, slb, ↓reduceIte, reduceCtorEq, jA, jB, jC, jD, jE, jF, jG, jH, jI, jJ, jK, tfCeLm2]
      (repeat (first | refine aSeq fun X hX => ?_ | refine aBlk ?_ | refine aSkip ?_ | (first | refine aExit ?_ | refine aRet ?_); try simp only [slx, ↓reduceIte, Nat.reduceEqDiff, reduceCtorEq] | (first | refine aReg ?_ | refine aDrE ?_ | refine aIf ?_); simp -implicitDefEqProofs only [forall_eq, ↓slp, slb, ↓reduceIte, reduceCtorEq, jA, jB, jC, jD, jE, jF, jG, jH, jI, jJ, jK, tfCeLm2, k0, c8, gt_iff_lt, Int.reduceLT, Int.reduceBEq, e255] | refine hX _ _ ?_; clear hX X | clear hX X; refine hX _ _ ?_; clear hX X | clear hX X; clear hX X; refine hX _ _ ?_; clear hX X | intro hlen; unfold maxLen at hlen | apply And.intro; focus (first | omega | assumption | (repeat' apply And.intro) <;> first | omega | assumption)))
      refine callM (lend_any hp h1 6) ?_
      rintro v m2 ⟨rfl, hc2, h2⟩
      simp -implicitDefEqProofs only [↓slp, slb, ↓reduceIte, reduceCtorEq, jA, jB, jC, jD, jE, jF, jG, jH, jI, jJ, jK, tfCeLm2]
      (repeat (first | refine aSeq fun X hX => ?_ | refine aBlk ?_ | refine aSkip ?_ | (first | refine aExit ?_ | refine aRet ?_); try simp only [slx, ↓reduceIte, Nat.reduceEqDiff, reduceCtorEq] | (first | refine aReg ?_ | refine aDrE ?_ | refine aIf ?_); simp -implicitDefEqProofs only [forall_eq, ↓slp, slb, ↓reduceIte, reduceCtorEq, jA, jB, jC, jD, jE, jF, jG, jH, jI, jJ, jK, tfCeLm2] | refine hX _ _ ?_; clear hX X | clear hX X; refine hX _ _ ?_; clear hX X | clear hX X; clear hX X; refine hX _ _ ?_; clear hX X | intro hlen; unfold maxLen at hlen | apply And.intro; focus (first | omega | assumption | (repeat' apply And.intro) <;> first | omega | assumption)))
      simp only [aPost, Try.results39, aRes_n, aRes_t, aRes_c, pack_one, pack_two]
      exact leave_lm h2 (hc1.trans hc2) rfl (hfin6 (hnone (.inr (.inr ⟨hk0.1, h8⟩))) m2 hc2 h2)
    | true =>
    have h8 : e.kids.length = 3 := by have := eq_of_beq c8; omega
    rw [if_neg (by omega), if_neg (by omega), if_neg (by omega), if_neg (by omega), if_neg (by omega), if_pos k0] at hE1
    have e3n : ((3 : Nat) : Int) = 3 := rfl
    obtain ⟨a, b, d, hkids⟩ := len3 h8
    have iA : ValC a := by have := ih 0 (by rw [hkids]; simp); simpa [hkids] using this
    have iB : ValC b := by have := ih 1 (by rw [hkids]; simp); simpa [hkids] using this
    have iD : ValC d := by have := ih 2 (by rw [hkids]; simp); simpa [hkids] using this
    rw [hkids] at hE1
    dsimp only at hE1
    simp -implicitDefEqProofs only [↓slp, slb, ↓reduceIte, reduceCtorEq, jA, jB, jC, jD, jE, jF, jG, jH, jI, jJ, jK, tfCeLm2]
    (repeat (first | refine aSeq fun X hX => ?_ | refine aBlk ?_ | refine aSkip ?_ | (first | refine aExit ?_ | refine aRet ?_); try simp only [slx, ↓reduceIte, Nat.reduceEqDiff, reduceCtorEq] | (first | refine aReg ?_ | refine aIf ?_); simp -implicitDefEqProofs only [forall_eq, ↓slp, slb, ↓reduceIte, reduceCtorEq, jA, jB, jC, jD, jE, jF, jG, jH, jI, jJ, jK, tfCeLm2, k0, hkids, e3n, gt_iff_lt, Int.reduceLT, Int.reduceBEq, e255] | refine hX _ _ ?_; clear hX X | clear hX X; refine hX _ _ ?_; clear hX X | clear hX X; clear hX X; refine hX _ _ ?_; clear hX X | intro hlen; unfold maxLen at hlen | apply And.intro; focus (first | omega | assumption | (repeat' apply And.intro) <;> first | omega | assumption)))
    refine callM (iA p vs bs s1 env m1 hp h1 hE h32) ?_
    rintro v m2 ⟨hc2, ⟨x, s2, hx, rfl, hx32, h2⟩ | ⟨hw, s2, x, hx, hw255, rfl, hx32, h2⟩⟩
    · have hx' : evalC unN binN progL sS 0 env a s1 = .ok x s2 := hx
      rw [CRn.bind_ok hx'] at hE1
      cases cx : (x == 0) with
      | true =>
        have hx0 : x = 0 := by simpa using cx
        rw [if_neg (by omega)] at hE1
        simp -implicitDefEqProofs only [↓slp, slb, ↓reduceIte, reduceCtorEq, jA, jB, jC, jD, jE, jF, jG, jH, jI, jJ, jK, tfCeLm2, cx]
        (repeat (first | refine aSeq fun X hX => ?_ | refine aBlk ?_ | refine aSkip ?_ | (first | refine aExit ?_ | refine aRet ?_); try simp only [slx, ↓reduceIte, Nat.reduceEqDiff, reduceCtorEq] | (first | refine aReg ?_ | refine aDrE ?_ | refine aIf ?_); simp -implicitDefEqProofs only [forall_eq, ↓slp, slb, ↓reduceIte, reduceCtorEq, jA, jB, jC, jD, jE, jF, jG, jH, jI, jJ, jK, tfCeLm2, hkids, cx] | refine hX _ _ ?_; clear hX X | clear hX X; refine hX _ _ ?_; clear hX X | clear hX X; clear hX X; refine hX _ _ ?_; clear hX X | intro hlen; unfold maxLen at hlen | apply And.intro; focus (first | omega | assumption | (repeat' apply And.intro) <;> first | omega | assumption)))
        refine callM (iD p vs bs s2 env m2 hp h2 hE h32) ?_
        rintro v m3 ⟨hc3, ⟨y, s3, hy, rfl, hy32, h3⟩ | ⟨hw, s3, y, hy, hw255, rfl, hy32, h3⟩⟩
        · have hy' : evalC unN binN progL sS 0 env d s2 = .ok y s3 := hy
          rw [hy'] at hE1
          simp -implicitDefEqProofs only [↓slp, slb, ↓reduceIte, reduceCtorEq, jA, jB, jC, jD, jE, jF, jG, jH, jI, jJ, jK, tfCeLm2]
          (repeat (first | refine aSeq fun X hX => ?_ | refine aBlk ?_ | refine aSkip ?_ | (first | refine aExit ?_ | refine aRet ?_); try simp only [slx, ↓reduceIte, Nat.reduceEqDiff, reduceCtorEq] | (first | refine aReg ?_ | refine aDrE ?_ | refine aIf ?_); simp -implicitDefEqProofs only [forall_eq, ↓slp, slb, ↓reduceIte, reduceCtorEq, jA, jB, jC, jD, jE, jF, jG, jH, jI, jJ, jK, tfCeLm2] | refine hX _ _ ?_; clear hX X | clear hX X; refine hX _ _ ?_; clear hX X | clear hX X; clear hX X; refine hX _ _ ?_; clear hX X | intro hlen; unfold maxLen at hlen | apply And.intro; focus (first | omega | assumption | (repeat' apply And.intro) <;> first | omega | assumption)))
          simp only [aPost, Try.results39, aRes_n, aRes_t, aRes_c, pack_one, pack_two]
          exact leave_lm h3 ((hc1.trans hc2).trans hc3) rfl ⟨(hc1.trans hc2).trans hc3, .inl ⟨y, s3, hE1, rfl, hy32, h3⟩⟩
        · have hy' : evalC unN binN progL sS 0 env d s2 = .bad hw s3 := hy
          rw [hy'] at hE1
          simp -implicitDefEqProofs only [↓slp, slb, ↓reduceIte, reduceCtorEq, jA, jB, jC, jD, jE, jF, jG, jH, jI, jJ, jK, tfCeLm2]
          (repeat (first | refine aSeq fun X hX => ?_ | refine aBlk ?_ | refine aSkip ?_ | (first | refine aExit ?_ | refine aRet ?_); try simp only [slx, ↓reduceIte, Nat.reduceEqDiff, reduceCtorEq] | (first | refine aReg ?_ | refine aDrE ?_ | refine aIf ?_); simp -implicitDefEqProofs only [forall_eq, ↓slp, slb, ↓reduceIte, reduceCtorEq, jA, jB, jC, jD, jE, jF, jG, jH, jI, jJ, jK, tfCeLm2] | refine hX _ _ ?_; clear hX X | clear hX X; refine hX _ _ ?_; clear hX X | clear hX X; clear hX X; refine hX _ _ ?_; clear hX X | intro hlen; unfold maxLen at hlen | apply And.intro; focus (first | omega | assumption | (repeat' apply And.intro) <;> first | omega | assumption)))
          simp only [aPost, Try.results39, aRes_n, aRes_t, aRes_c, pack_one, pack_two]
          exact leave_lm h3 ((hc1.trans hc2).trans hc3) rfl ⟨(hc1.trans hc2).trans hc3, .inr ⟨hw, s3, y, hE1, hw255, rfl, hy32, h3⟩⟩
      | false =>
        have hx0 : x ≠ 0 := by simpa using cx
        rw [if_pos hx0] at hE1
        simp -implicitDefEqProofs only [↓slp, slb, ↓reduceIte, reduceCtorEq, jA, jB, jC, jD, jE, jF, jG, jH, jI, jJ, jK, tfCeLm2, cx]
        (repeat (first | refine aSeq fun X hX => ?_ | refine aBlk ?_ | refine aSkip ?_ | (first | refine aExit ?_ | refine aRet ?_); try simp only [slx, ↓reduceIte, Nat.reduceEqDiff, reduceCtorEq] | (first | refine aReg ?_ | refine aDrE ?_ | refine aIf ?_); simp -implicitDefEqProofs only [forall_eq, ↓slp, slb, ↓reduceIte, reduceCtorEq, jA, jB, jC, jD, jE, jF, jG, jH, jI, jJ, jK, tfCeLm2, hkids, cx] | refine hX _ _ ?_; clear hX X | clear hX X; refine hX _ _ ?_; clear hX X | clear hX X; clear hX X; refine hX _ _ ?_; clear hX X | intro hlen; unfold maxLen at hlen | apply And.intro; focus (first | omega | assumption | (repeat' apply And.intro) <;> first | omega | assumption)))
        refine callM (iB p vs bs s2 env m2 hp h2 hE h32) ?_
        rintro v m3 ⟨hc3, ⟨y, s3, hy, rfl, hy32, h3⟩ | ⟨hw, s3, y, hy, hw255, rfl, hy32, h3⟩⟩
        · have hy' : evalC unN binN progL sS 0 env b s2 = .ok y s3 := hy
          rw [hy'] at hE1
          simp -implicitDefEqProofs only [↓slp, slb, ↓reduceIte, reduceCtorEq, jA, jB, jC, jD, jE, jF, jG, jH, jI, jJ, jK, tfCeLm2]
          (repeat (first | refine aSeq fun X hX => ?_ | refine aBlk ?_ | refine aSkip ?_ | (first | refine aExit ?_ | refine aRet ?_); try simp only [slx, ↓reduceIte, Nat.reduceEqDiff, reduceCtorEq] | (first | refine aReg ?_ | refine aDrE ?_ | refine aIf ?_); simp -implicitDefEqProofs only [forall_eq, ↓slp, slb, ↓reduceIte, reduceCtorEq, jA, jB, jC, jD, jE, jF, jG, jH, jI, jJ, jK, tfCeLm2] | refine hX _ _ ?_; clear hX X | clear hX X; refine hX _ _ ?_; clear hX X | clear hX X; clear hX X; refine hX _ _ ?_; clear hX X | intro hlen; unfold maxLen at hlen | apply And.intro; focus (first | omega | assumption | (repeat' apply And.intro) <;> first | omega | assumption)))
          simp only [aPost, Try.results39, aRes_n, aRes_t, aRes_c, pack_one, pack_two]
          exact leave_lm h3 ((hc1.trans hc2).trans hc3) rfl ⟨(hc1.trans hc2).trans hc3, .inl ⟨y, s3, hE1, rfl, hy32, h3⟩⟩
        · have hy' : evalC unN binN progL sS 0 env b s2 = .bad hw s3 := hy
          rw [hy'] at hE1
          simp -implicitDefEqProofs only [↓slp, slb, ↓reduceIte, reduceCtorEq, jA, jB, jC, jD, jE, jF, jG, jH, jI, jJ, jK, tfCeLm2]
          (repeat (first | refine aSeq fun X hX => ?_ | refine aBlk ?_ | refine aSkip ?_ | (first | refine aExit ?_ | refine aRet ?_); try simp only [slx, ↓reduceIte, Nat.reduceEqDiff, reduceCtorEq] | (first | refine aReg ?_ | refine aDrE ?_ | refine aIf ?_); simp -implicitDefEqProofs only [forall_eq, ↓slp, slb, ↓reduceIte, reduceCtorEq, jA, jB, jC, jD, jE, jF, jG, jH, jI, jJ, jK, tfCeLm2] | refine hX _ _ ?_; clear hX X | clear hX X; refine hX _ _ ?_; clear hX X | clear hX X; clear hX X; refine hX _ _ ?_; clear hX X | intro hlen; unfold maxLen at hlen | apply And.intro; focus (first | omega | assumption | (repeat' apply And.intro) <;> first | omega | assumption)))
          simp only [aPost, Try.results39, aRes_n, aRes_t, aRes_c, pack_one, pack_two]
          exact leave_lm h3 ((hc1.trans hc2).trans hc3) rfl ⟨(hc1.trans hc2).trans hc3, .inr ⟨hw, s3, y, hE1, hw255, rfl, hy32, h3⟩⟩
    · have hx' : evalC unN binN progL sS 0 env a s1 = .bad hw s2 := hx
      rw [CRn.bind_bad hx'] at hE1
      cases cx : (x == 0) with
      | true =>
        simp -implicitDefEqProofs only [↓slp, slb, ↓reduceIte, reduceCtorEq, jA, jB, jC, jD, jE, jF, jG, jH, jI, jJ, jK, tfCeLm2, cx]
        (repeat (first | refine aSeq fun X hX => ?_ | refine aBlk ?_ | refine aSkip ?_ | (first | refine aExit ?_ | refine aRet ?_); try simp only [slx, ↓reduceIte, Nat.reduceEqDiff, reduceCtorEq] | (first | refine aReg ?_ | refine aDrE ?_ | refine aIf ?_); simp -implicitDefEqProofs only [forall_eq, ↓slp, slb, ↓reduceIte, reduceCtorEq, jA, jB, jC, jD, jE, jF, jG, jH, jI, jJ, jK, tfCeLm2, hkids, cx] | refine hX _ _ ?_; clear hX X | clear hX X; refine hX _ _ ?_; clear hX X | clear hX X; clear hX X; refine hX _ _ ?_; clear hX X | intro hlen; unfold maxLen at hlen | apply And.intro; focus (first | omega | assumption | (repeat' apply And.intro) <;> first | omega | assumption)))
        refine callE (val_no h2 (by omega) d) ?_
        simp -implicitDefEqProofs only [↓slp, slb, ↓reduceIte, reduceCtorEq, jA, jB, jC, jD, jE, jF, jG, jH, jI, jJ, jK, tfCeLm2]
        (repeat (first | refine aSeq fun X hX => ?_ | refine aBlk ?_ | refine aSkip ?_ | (first | refine aExit ?_ | refine aRet ?_); try simp only [slx, ↓reduceIte, Nat.reduceEqDiff, reduceCtorEq] | (first | refine aReg ?_ | refine aDrE ?_ | refine aIf ?_); simp -implicitDefEqProofs only [forall_eq, ↓slp, slb, ↓reduceIte, reduceCtorEq, jA, jB, jC, jD, jE, jF, jG, jH, jI, jJ, jK, tfCeLm2] | refine hX _ _ ?_; clear hX X | clear hX X; refine hX _ _ ?_; clear hX X | clear hX X; clear hX X; refine hX _ _ ?_; clear hX X | intro hlen; unfold maxLen at hlen | apply And.intro; focus (first | omega | assumption | (repeat' apply And.intro) <;> first | omega | assumption)))
        simp only [aPost, Try.results39, aRes_n, aRes_t, aRes_c, pack_one, pack_two]
        exact leave_lm h2 (hc1.trans hc2) rfl ⟨hc1.trans hc2, .inr ⟨hw, s2, 0, hE1, hw255, rfl, r32_0', h2⟩⟩
      | false =>
        simp -implicitDefEqProofs only [↓slp, slb, ↓reduceIte, reduceCtorEq, jA, jB, jC, jD, jE, jF, jG, jH, jI, jJ, jK, tfCeLm2, cx]
        (repeat (first | refine aSeq fun X hX => ?_ | refine aBlk ?_ | refine aSkip ?_ | (first | refine aExit ?_ | refine aRet ?_); try simp only [slx, ↓reduceIte, Nat.reduceEqDiff, reduceCtorEq] | (first | refine aReg ?_ | refine aDrE ?_ | refine aIf ?_); simp -implicitDefEqProofs only [forall_eq, ↓slp, slb, ↓reduceIte, reduceCtorEq, jA, jB, jC, jD, jE, jF, jG, jH, jI, jJ, jK, tfCeLm2, hkids, cx] | refine hX _ _ ?_; clear hX X | clear hX X; refine hX _ _ ?_; clear hX X | clear hX X; clear hX X; refine hX _ _ ?_; clear hX X | intro hlen; unfold maxLen at hlen | apply And.intro; focus (first | omega | assumption | (repeat' apply And.intro) <;> first | omega | assumption)))
        refine callE (val_no h2 (by omega) b) ?_
        simp -implicitDefEqProofs only [↓slp, slb, ↓reduceIte, reduceCtorEq, jA, jB, jC, jD, jE, jF, jG, jH, jI, jJ, jK, tfCeLm2]
        (repeat (first | refine aSeq fun X hX => ?_ | refine aBlk ?_ | refine aSkip ?_ | (first | refine aExit ?_ | refine aRet ?_); try simp only [slx, ↓reduceIte, Nat.reduceEqDiff, reduceCtorEq] | (first | refine aReg ?_ | refine aDrE ?_ | refine aIf ?_); simp -implicitDefEqProofs only [forall_eq, ↓slp, slb, ↓reduceIte, reduceCtorEq, jA, jB, jC, jD, jE, jF, jG, jH, jI, jJ, jK, tfCeLm2] | refine hX _ _ ?_; clear hX X | clear hX X; refine hX _ _ ?_; clear hX X | clear hX X; clear hX X; refine hX _ _ ?_; clear hX X | intro hlen; unfold maxLen at hlen | apply And.intro; focus (first | omega | assumption | (repeat' apply And.intro) <;> first | omega | assumption)))
        simp only [aPost, Try.results39, aRes_n, aRes_t, aRes_c, pack_one, pack_two]
        exact leave_lm h2 (hc1.trans hc2) rfl ⟨hc1.trans hc2, .inr ⟨hw, s2, 0, hE1, hw255, rfl, r32_0', h2⟩⟩
theorem val_all (e : CE) : e.good → e.locs → ValC e :=
  CE.ind (motive := fun e => e.good → e.locs → ValC e) (fun e ih hg hl => val_run e (fun k hk => ih k hk (CE.good_kids hg _ (List.getElem_mem hk)) (CE.locs_kids hl _ (List.getElem_mem hk))) hg hl) e
end Go.Proofs.Ytepjjgnkhcjpcaa

/-
  The law's machine: a call; what the evaluator does with one, in plain Lean.
-/
set_option linter.unusedVariables false
set_option linter.unusedSimpArgs false
namespace Go.Proofs.Ytepjjgnkhcjpcaa
open Go

def evCall (body : List CS) : Str → Int → List Int → CM → CRn (List Int) := mcallC unN binN progL (progF body) 1
def evCallS (body : List CS) (name part : Str) (args : List CE) (outs : List Str) (env : Env) (s : CM) : CRn Env := callC unN binN progL (progF body) (evCall body) sS 0 name part args outs env s
theorem find_any' (body : List CS) (name : Str) : findF (progF body) name = if name.toList == sAdd.toList then 0 else if name.toList == sF.toList then 1 else -1 := by
  have e : ∀ a b : Str, (a.toList == b.toList) = (b.toList == a.toList) := fun a b => by
    rw [Bool.eq_iff_iff, beq_iff_eq, beq_iff_eq]; exact eq_comm
  unfold findF progF idxF idxF idxF
  show (if (sAdd.toList == name.toList) = true then ((0 : Nat) : Int) else if (sF.toList == name.toList) = true then ((0 + 1 : Nat) : Int) else -1) = _
  simp only [e sAdd name, e sF name]
  rfl
theorem callC_part (body : List CS) (name part : Str) (args : List CE) (outs : List Str) (env : Env) (s : CM) (h : (part.toList == sP.toList) = false) : evCallS body name part args outs env s = .bad 2 s := by
  unfold evCallS callC
  have hb : ∀ {a b : Str}, (a.toList == b.toList) = true → a = b := fun h => bytes_tl.1 h
  have k3 : (sE.toList == (⟨#[]⟩ : ByteArray).toList) = true := by simp [sE]
  refine if_pos ?_
  rcases off_any part with ⟨h1, _⟩ | ⟨h1, _⟩ | ⟨h1, h2⟩
  · rw [h1]; exact .inr k3
  · rw [h1]; exact .inr k3
  · left
    have n1 : (part.toList == sFa.toList) = false := by
      cases q : part.toList == sFa.toList with
      | false => rfl
      | true => rw [hb q, show lcell sFa = 0 from by simp [lcell]] at h2; cases h2
    have n2 : (part.toList == sFb.toList) = false := by
      cases q : part.toList == sFb.toList with
      | false => rfl
      | true => rw [hb q, show lcell sFb = 3 from by simp [lcell, sFa, sFb, ByteArray.toList_eq]] at h2; cases h2
    have e : ∀ a b : Str, (a.toList == b.toList) = (b.toList == a.toList) := fun a b => by
      rw [Bool.eq_iff_iff, beq_iff_eq, beq_iff_eq]; exact eq_comm
    have q1 : (sFa.toList == part.toList) = false := by rw [e]; exact n1
    have q2 : (sFb.toList == part.toList) = false := by rw [e]; exact n2
    have q3 : (sP.toList == part.toList) = false := by rw [e]; exact h
    have hf : findS progL sS = 1 := by simp [findS, idxF, isSr, progL, sS, sT, ByteArray.toList_eq]
    have e1 : (progL.getD 1 ⟨⟨#[]⟩, []⟩).fields = [⟨sFa, sE⟩, ⟨sP, sT⟩, ⟨sFb, sE⟩] := rfl
    have k2 : sizeF progL progL.length sT = 2 := by simp [findS, idxF, isSr, progL, kF, sizeF, sumF, ByteArray.toList_eq, sT, sS, sFa, sFb, sP, sE]
    have k4 : (sT.toList == (⟨#[]⟩ : ByteArray).toList) = false := by simp [sT, ByteArray.toList_eq]
    rw [offsetF, hf, if_neg (by omega), show (1 : Int).toNat = 1 from rfl, e1]
    simp only [offF, q1, q2, q3, kF, k3, k4, k2, if_true, Bool.false_eq_true, if_false]
    decide
theorem callC_name (body : List CS) (name : Str) (args : List CE) (outs : List Str) (env : Env) (s : CM) (h : (name.toList == sAdd.toList) = false ∨ outs.length ≠ 1) : evCallS body name sP args outs env s = .bad 1 s := by
  unfold evCallS callC
  have k4 : (sT.toList == (⟨#[]⟩ : ByteArray).toList) = false := by simp [sT, ByteArray.toList_eq]
  have k5 : (sS.toList == sT.toList) = false := by simp [sS, sT, ByteArray.toList_eq]
  have k6 : (sT.toList == sT.toList) = true := by simp
  rw [off_p]
  simp only []
  rw [if_neg (by rw [k4]; rintro (h | h) <;> first | omega | cases h), find_any']
  cases c1 : (name.toList == sAdd.toList) with
  | true =>
    have ho : outs.length ≠ 1 := h.resolve_left (by simp [c1])
    exact if_pos (.inr (.inr (Ne.symm ho)))
  | false =>
    cases c2 : (name.toList == sF.toList) with
    | true => exact if_pos (.inr (.inl k5))
    | false => exact if_pos (.inl (by decide))
theorem callC_add (body : List CS) (args : List CE) (o : Str) (env : Env) (s : CM) : evCallS body sAdd sP args [o] env s = (argsC unN binN progL sS 0 env args s).bind fun xs m => (evCall body sAdd 1 xs m).bind fun ys m => .ok (env.puts [o] ys) m := by
  unfold evCallS callC
  have k4 : (sT.toList == (⟨#[]⟩ : ByteArray).toList) = false := by simp [sT, ByteArray.toList_eq]
  have k6 : (sT.toList == sT.toList) = true := by simp
  have k7 : (sAdd.toList == sAdd.toList) = true := by simp
  rw [off_p]
  simp only []
  rw [if_neg (by rw [k4]; rintro (h | h) <;> first | omega | cases h), find_any', k7]
  have : ¬ (((if true = true then (0 : Int) else if (sAdd.toList == sF.toList) = true then 1 else -1) < 0) ∨ (((progF body).getD (if true = true then (0 : Int) else if (sAdd.toList == sF.toList) = true then 1 else -1).toNat noFn).self.toList == sT.toList) = false ∨ ((progF body).getD (if true = true then (0 : Int) else if (sAdd.toList == sF.toList) = true then 1 else -1).toNat noFn).outs.length ≠ [o].length) := by
    rintro (h | h | h)
    · exact absurd h (by decide)
    · have : (sT.toList == sT.toList) = false := h
      rw [k6] at this; cases this
    · exact h rfl
  rw [if_neg this]
  rfl
/-- add's run. -/
def addV (x : Int) (s : CM) : CRn (List Int) :=
  if s.left < 2 then .bad 4 { s with left := 0 }
  else if s.mem.length < 2 then .bad 2 { s with left := s.left - 2 }
  else if s.left < 6 then .bad 4 { s with tch := s.tch.set 1 true, left := 0 }
  else .ok [s.mem.getD 1 0] { mem := s.mem.set 1 (binN 3 (s.mem.getD 1 0) x), tch := s.tch.set 1 true, left := s.left - 6 }
theorem add_bad (body : List CS) (xs : List Int) (s : CM) (h : xs.length ≠ 1) : evCall body sAdd 1 xs s = .bad 1 s := by
  unfold evCall
  exact mcall_bad1 _ (.inr (by rw [find_add]; exact h))
theorem cellT (fld : Str) (s : CM) (hf : fld = sFa) : cellC progL sT 1 fld s = if s.mem.length < 2 then .bad 2 s else .ok 1 { s with tch := s.tch.set 1 true } := by
  subst hf
  unfold cellC
  have w1 : IntKind.i64.wrap (1 + 0) = 1 := rfl
  have e1 : (sE.toList == (⟨#[]⟩ : ByteArray).toList) = true := by simp [sE]
  simp only [offT_fa, w1]
  by_cases q : s.mem.length < 2
  · rw [if_pos (.inr (.inr (.inr (by omega)))), if_pos q]
  · rw [if_neg (by rw [e1]; rintro (h | h | h | h) <;> first | omega | cases h), if_neg q]
    rfl
theorem add_run (body : List CS) (x : Int) (s : CM) : evCall body sAdd 1 [x] s = addV x s := by
  have g1 : (progF body).getD (0 : Int).toNat noFn = addF := rfl
  have hc : ∀ s, cellC progL sT 1 sFa s = _ := fun s => cellT sFa s rfl
  have hne : ¬ (sO.toList = sN.toList) := by simp [sO, sN, ByteArray.toList_eq]
  have hne' : ¬ (sN.toList = sO.toList) := by simp [sO, sN, ByteArray.toList_eq]
  unfold evCall addV
  rw [mcallC, find_add, g1, if_neg (by simp [addF])]
  obtain ⟨mem, tch, left⟩ := s
  match left with
  | 0 => simp [addF, stsC, stC, stepC, CRn.bind]
  | 1 => simp [addF, stsC, stC, evalC, ceF, stepC, CRn.bind]
  | 2 =>
    by_cases hm : mem.length < 2 <;> simp [addF, stsC, stC, evalC, ceF, ceL, stepC, CRn.bind, hc, hm]
  | 3 =>
    by_cases hm : mem.length < 2 <;> simp [addF, stsC, stC, evalC, ceF, ceL, stepC, CRn.bind, hc, hm]
  | 4 =>
    by_cases hm : mem.length < 2 <;> simp [addF, stsC, stC, evalC, ceF, ceL, stepC, CRn.bind, hc, hm, Env.find, Env.put, Env.puts, hne, hne']
  | 5 =>
    by_cases hm : mem.length < 2 <;> simp [addF, stsC, stC, evalC, ceF, ceL, stepC, CRn.bind, hc, hm, Env.find, Env.put, Env.puts, hne, hne']
  | n + 6 =>
    by_cases hm : mem.length < 2
    · simp [addF, stsC, stC, evalC, ceF, ceL, stepC, CRn.bind, hc, hm]
    · have hm1 : 1 < mem.length := by omega
      simp [addF, stsC, stC, evalC, ceF, ceL, stepC, CRn.bind, hc, hm, Env.find, Env.put, Env.puts, hne, hne', outsC, hm1, show ¬ n + 6 < 2 by omega, show ¬ n + 6 < 6 by omega]
end Go.Proofs.Ytepjjgnkhcjpcaa
