/-
  Texts that belong together: CeProg, CeRunsA, CeRuns.
-/
import Derived.Test.YtepjjgnkhcjpcaaCeBsD
import Derived.Test.YtepjjgnkhcjpcaaCeG4
import Derived.Test.YtepjjgnkhcjpcaaCeMk2
import Derived.Test.YtepjjgnkhcjpcaaCeAw
import Derived.Test.YtepjjgnkhcjpcaaCeG7
import Derived.Test.YtepjjgnkhcjpcaaAbRaw
/-
  The law's program, made.
-/
set_option linter.unusedVariables false
set_option linter.unusedSimpArgs false
namespace Go.Proofs.Ytepjjgnkhcjpcaa
open Nat renaming reduceEqDiff → jA, reduceAdd → jB, reduceMul → jC, reduceLT → jD, reduceLeDiff → jE, reduceBEq → jF, reduceBNe → jG
open Int renaming reduceLE → jH, reduceLT → jI, reduceToNat → jJ, reduceEq → jK
open Go
-- EXX: CE.settle_pv, CE.pure_pv, CE.cells_pv, CE.cs, CS.settle_pv, CS.pure_pv, CS.cells_pv
set_option maxRecDepth 20000
-- TNAMES: int; uint8; int32; string; bool; clite.Func; clite.Machine; *clite.Machine; clite.Prog; []bool; []int32; []clite.Struct; clite.Struct; []clite.Part; clite.Part; []clite.Func; clite.Expr; []clite.Expr; clite.Stmt; []clite.Stmt; []string
set_option linter.defProp false
def tfCeProg := And.intro @tfA (And.intro @Ex.settle_pv (And.intro @Ex.pure_pv (And.intro @Ex.cells_pv (And.intro @Ex.cs.eq_1 (And.intro @On.pv.eq_1 (And.intro @Ty.pv.eq_1 (And.intro @Va.settle_pv (And.intro @Va.pure_pv (And.intro @Va.cells_pv (And.intro @Va.cs.eq_1 (And.intro @CE.settle_pv (And.intro @CE.pure_pv (And.intro @CE.cells_pv (And.intro @CE.cs.eq_1 (And.intro @CS.settle_pv (And.intro @CS.pure_pv @CS.cells_pv))))))))))))))))

set_option maxHeartbeats 4000000 in
theorem prog_any (o : Own) (body : List CS) (m : M) : ACalls Try.prog 24 [.sl o (body.map CS.pv)] m (fun v m' => v = .ag [.sl .no (progL.map Sr.pv), .sl .no ((progF body).map CFn.pv)] ∧ m' = m) := by
  refine ACalls.enter (mu := [2, 5]) ok_mix Try.func24 rfl (by kernel_rfl) (by kernel_rfl) (by simp only [List.length_cons, List.length_nil, Try.ntmps24]; omega) ?_
  (repeat (first | refine aSeq fun X hX => ?_ | refine aBlk ?_ | refine aSkip ?_ | (first | refine aExit ?_ | refine aRet ?_); try simp only [slx, ↓reduceIte, Nat.reduceEqDiff, reduceCtorEq] | (first | refine aReg ?_ | refine aDrE ?_ | refine aIf ?_); simp -implicitDefEqProofs only [forall_eq, ↓slp, slb, ↓reduceIte, reduceCtorEq, jA, jB, jC, jD, jE, jF, jG, jH, jI, jJ, jK, tfCeProg] | refine hX _ _ ?_; clear hX X | clear hX X; refine hX _ _ ?_; clear hX X | clear hX X; clear hX X; refine hX _ _ ?_; clear hX X | intro hlen; unfold maxLen at hlen | apply And.intro; focus (first | omega | assumption | (repeat' apply And.intro) <;> first | omega | assumption)))
  refine callE (local_any _ _) ?_
  simp -implicitDefEqProofs only [↓slp, slb, ↓reduceIte, reduceCtorEq, jA, jB, jC, jD, jE, jF, jG, jH, jI, jJ, jK, tfCeProg]
  refine callE (local_any _ _) ?_
  simp -implicitDefEqProofs only [↓slp, slb, ↓reduceIte, reduceCtorEq, jA, jB, jC, jD, jE, jF, jG, jH, jI, jJ, jK, tfCeProg]
  (repeat (first | refine aSeq fun X hX => ?_ | refine aBlk ?_ | refine aSkip ?_ | (first | refine aExit ?_ | refine aRet ?_); try simp only [slx, ↓reduceIte, Nat.reduceEqDiff, reduceCtorEq] | (first | refine aReg ?_ | refine aDrE ?_ | refine aIf ?_); simp -implicitDefEqProofs only [forall_eq, ↓slp, slb, ↓reduceIte, reduceCtorEq, jA, jB, jC, jD, jE, jF, jG, jH, jI, jJ, jK, tfCeProg] | refine hX _ _ ?_; clear hX X | clear hX X; refine hX _ _ ?_; clear hX X | clear hX X; clear hX X; refine hX _ _ ?_; clear hX X | intro hlen; unfold maxLen at hlen | apply And.intro; focus (first | omega | assumption | (repeat' apply And.intro) <;> first | omega | assumption)))
  simp only [aPost, Try.results24, aRes_n, aRes_t, aRes_c, pack_one, pack_two]
  simp -implicitDefEqProofs only [↓slp, slb, ↓reduceIte, reduceCtorEq, jA, jB, jC, jD, jE, jF, jG, jH, jI, jJ, jK, tfCeProg]
  exact leave_ext rfl ⟨rfl, rfl⟩
/-- A machine that is new. -/
theorem new_ms {L : List Sr} {fns : List CFn} (k : Nat) (hk : k ≤ 1048576) (m : M) :
    MS (m.nb + 2) m.nb (m.nb + 1) L fns (List.replicate k 0) (List.replicate k false) (((m.push (List.replicate k (.v (.int .i32 0)))).push (List.replicate k (.v (.bool false)))).push [.sl .no (L.map Sr.pv), .sl .no (fns.map CFn.pv), .bs m.nb 0 k, .bs (m.nb + 1) 0 k]) := by
  refine ⟨?_, ?_, ?_, by simp, by simpa using hk, fun x hx => by rw [List.eq_of_mem_replicate hx]; unfold R32; omega, by omega⟩
  · rw [M.get_push, push_nb1, push_nb1, if_pos rfl, List.length_replicate]
  · rw [M.get_push, push_nb1, push_nb1, if_neg (by omega), M.get_push, push_nb1, if_neg (by omega), M.get_push, if_pos rfl]
    simp
  · rw [M.get_push, push_nb1, push_nb1, if_neg (by omega), M.get_push, push_nb1, if_pos rfl]
    simp
theorem new_msE {L : List Sr} {fns : List CFn} (k : Nat) (hk : k ≤ 1048576) (m : M) :
    MS (m.nb + 2) m.nb (m.nb + 1) L fns (List.replicate k 0) (List.replicate k false) (m.ext [some (List.replicate k (.v (.int .i32 0))), some (List.replicate k (.v (.bool false))), some [.sl .no (L.map Sr.pv), .sl .no (fns.map CFn.pv), .bs m.nb 0 k, .bs (m.nb + 1) 0 k]]) := by
  have := new_ms (L := L) (fns := fns) k hk m
  rwa [push_ext, push_ext, push_ext, ext_ext, ext_ext] at this
theorem newMS_any {L : List Sr} {fns : List CFn} (k : Nat) (hk : k ≤ 1048576) (m : M) :
    ACalls Try.prog 17 [.ag [.sl .no (L.map Sr.pv), .sl .no (fns.map CFn.pv)], .v (.int .i64 (k : Int))] m (fun v m' => v = .tp [.bp (m.nb + 2) 0, .v (.int .i64 0)] ∧
      MS (m.nb + 2) m.nb (m.nb + 1) L fns (List.replicate k 0) (List.replicate k false) m' ∧ m'.nb = m.nb + 3 ∧ m'.toks = m.toks ∧ ∀ j, j < m.nb → m'.get j = m.get j) := by
  refine ACallsZ.mono (newC_any (.sl .no (L.map Sr.pv)) (.sl .no (fns.map CFn.pv)) k hk m) ?_ (fun _ _ h => h.elim)
  rintro v m' ⟨rfl, rfl⟩
  refine ⟨rfl, new_ms k hk m, by simp [M.push, M.nb], rfl, fun j hj => ?_⟩
  rw [push_ext, push_ext, push_ext, ext_ext, ext_ext]
  exact ext_old' hj
end Go.Proofs.Ytepjjgnkhcjpcaa

/-
  CliteRuns: what the evaluator does at the law's program; the law's machine when it is new.
-/
set_option linter.unusedVariables false
set_option linter.unusedSimpArgs false
namespace Go.Proofs.Ytepjjgnkhcjpcaa
open Go

theorem CS.made_good (x : CS) : x.made → x.good := by
  refine CS.rec (motive_1 := fun x => x.made → x.good) (motive_2 := fun l => CS.mades l → CS.goods l) ?_ ?_ ?_ x
  · intro kind name part e thn els args outs ih1 ih2 hm
    obtain ⟨⟨heg, hel⟩, hkind, ⟨hag, hal, han⟩, hout, hmt, hme⟩ := hm
    refine ⟨?_, heg, ih1 hmt, ih2 hme, hag, han⟩
    rcases hkind with ⟨h, _⟩ | ⟨h, _⟩ | h | h <;> omega
  · intro _; trivial
  · intro y l h1 h2 hg; exact ⟨h1 hg.1, h2 hg.2⟩
theorem CS.mades_goods : ∀ (l : List CS), CS.mades l → CS.goods l
  | [], _ => trivial
  | x :: l, h => ⟨CS.made_good x h.1, CS.mades_goods l h.2⟩
theorem goodR {body : List CS} (h : CS.mades body) : ∀ f ∈ progF body, f.good := by
  intro f hf
  simp only [progF, List.mem_cons, List.not_mem_nil, or_false] at hf
  rcases hf with rfl | rfl
  · simp [CFn.good, addF, CS.goods, CS.good, CE.good, CE.goods, ceF, ceL, R32]
  · exact ⟨CS.mades_goods body h, by simp⟩
/-- The variables at a run's beginning. -/
def vs0 (x : Int) : Nat → Int := fun i => if i = 0 then x else 0
def bs0 : Nat → Bool := fun i => decide (i = 0)
theorem envR0 (x : Int) : EnvR [(sVa, x)] (vs0 x) bs0 := by
  intro t ht
  have h0 : ∀ t, t < 4 → (sVa.toList == (nmV t).toList) = decide (t = 0) := by decide +kernel
  unfold Env.find
  simp only [List.find?_cons, List.find?_nil, h0 t ht]
  by_cases q : t = 0
  · subst q; simp [bs0, vs0]
  · simp [bs0, q]
theorem run_r (body : List CS) (x : Int) (F : Nat) (mem : List Int) (tch : List Bool) :
    runC progL (progF body) sF 0 [x] (F : Int) mem tch = (evSts body body [(sVa, x)] ⟨mem, tch, F⟩).bind fun env m => outsC env [nmV 1] m := by
  have g1 : (progF body).getD (1 : Int).toNat noFn = ⟨sF, sS, [sVa], [sVb], [], body⟩ := rfl
  have hz : (maxZ (F : Int)).toNat = F := by unfold maxZ; rw [if_neg (by omega)]; omega
  have hn : sVb = nmV 1 := by decide +kernel
  unfold runC
  rw [hz, show (progF body).length = 1 + 1 from rfl, mcallC, find_f, g1, if_neg (by simp), ← hn]
  rfl
/-- How a run ends. -/
def endR (body : List CS) (x : Int) (s : CM) (r : CRn (List Int)) : Prop := r = (evSts body body [(sVa, x)] s).bind fun env m => outsC env [nmV 1] m
theorem outs_b {env : Env} {vs : Nat → Int} {bs : Nat → Bool} (h : EnvR env vs bs) (s : CM) : outsC env [nmV 1] s = if bs 1 = true then .ok [vs 1] s else .bad 3 s := by
  unfold outsC
  rw [h 1 (by omega)]
  cases bs 1 with
  | true => rfl
  | false => rfl
theorem upd_upd (m : M) (id : Nat) (a b : List PV) : (m.upd id a).upd id b = m.upd id b := by
  unfold M.upd
  simp [List.set_set]
theorem lr_new (m : M) (k : Nat) (hk : k ≤ 1048576) (bs : List (Option (List PV))) (i j : Nat) (hi : bs[i]? = some (some (List.replicate k (.v (.int .i32 0))))) (hj : bs[j]? = some (some (List.replicate k (.v (.bool false)))))
    (h2 : bs[2]? = some (some (lCells ⟨m.nb + 2, m.nb + i, m.nb + j⟩ (fun _ => 0) (fun _ => false) k 0 0))) : LR ⟨m.nb + 2, m.nb + i, m.nb + j⟩ (fun _ => 0) (fun _ => false) ⟨List.replicate k 0, List.replicate k false, 0⟩ 0 (m.ext bs) := by
  refine ⟨?_, ?_, ?_, by simp, by simpa using hk, by show (0 : Nat) < _; omega, fun x hx => by rw [List.eq_of_mem_replicate hx]; unfold R32; omega⟩
  · rw [ext_get (i := 2) rfl, h2, List.length_replicate]; rfl
  · rw [ext_get (i := i) rfl, hi]; simp
  · rw [ext_get (i := j) rfl, hj]; simp
theorem MS.ext {mid memid tid : Nat} {L : List Sr} {fns : List CFn} {mem : List Int} {tch : List Bool} {m : M} (h : MS mid memid tid L fns mem tch m) (bs : List (Option (List PV))) : MS mid memid tid L fns mem tch (m.ext bs) :=
  ⟨(ext_old' (get_nb h.gmid)).trans h.gmid, (ext_old' (get_nb h.gmem)).trans h.gmem, (ext_old' (get_nb h.gtch)).trans h.gtch, h.tlen, h.mlen, h.m32, h.ne⟩
theorem MS.chg {mid memid tid : Nat} {L : List Sr} {fns : List CFn} {mem : List Int} {tch : List Bool} {m m' : M} {ids : List Nat} (h : MS mid memid tid L fns mem tch m) (hc : Chg ids m m') (h1 : mid ∉ ids) (h2 : memid ∉ ids) (h3 : tid ∉ ids) : MS mid memid tid L fns mem tch m' :=
  ⟨(hc.get _ h1).trans h.gmid, (hc.get _ h2).trans h.gmem, (hc.get _ h3).trans h.gtch, h.tlen, h.mlen, h.m32, h.ne⟩
theorem LR.chg {p : LP} {vs : Nat → Int} {bs : Nat → Bool} {s : CM} {how : Nat} {m m' : M} {ids : List Nat} (h : LR p vs bs s how m) (hc : Chg ids m m') (h1 : p.did ∉ ids) (h2 : p.dm ∉ ids) (h3 : p.dt ∉ ids) : LR p vs bs s how m' :=
  ⟨(hc.get _ h1).trans h.gd, (hc.get _ h2).trans h.gm, (hc.get _ h3).trans h.gt, h.tlen, h.mlen, h.l62, h.m32⟩
theorem aThen_then {X Y : F → M → Prop} {K : Exit → F → M → Prop} : aThen Y (aThen X K) = aThen Y K := by
  funext e f m; cases e <;> rfl
theorem aThen_normal {K : Exit → F → M → Prop} : aThen (K .normal) K = K := by
  funext e f m; cases e <;> rfl
theorem aSeq2 {P : Program} {mu : List Nat} {Z : PV → M → Prop} {K : Exit → F → M → Prop} {f : F} {m : M} {a b e : Code} (h : ∀ X : F → M → Prop, (∀ f m, aCode P mu Z e K f m → X f m) → aCode P mu Z (.seq a b) (aThen X K) f m) : aCode P mu Z (.seq a (.seq b e)) K f m := by
  have h' := h _ (fun _ _ h => h)
  simp only [aCode] at h' ⊢
  rwa [aThen_then] at h'
theorem aSeq4 {P : Program} {mu : List Nat} {Z : PV → M → Prop} {K : Exit → F → M → Prop} {f : F} {m : M} {a b c d e : Code} (h : ∀ X : F → M → Prop, (∀ f m, aCode P mu Z e K f m → X f m) → aCode P mu Z (.seq a (.seq b (.seq c d))) (aThen X K) f m) : aCode P mu Z (.seq a (.seq b (.seq c (.seq d e)))) K f m := by
  have h' := h _ (fun _ _ h => h)
  simp only [aCode] at h' ⊢
  rwa [aThen_then, aThen_then, aThen_then] at h'
/-- Both machines stand apart. -/
structure Apart (p : LP) (mid memid tid : Nat) : Prop where
  ok : p.ok
  a1 : mid ∉ p.ids
  a2 : memid ∉ p.ids
  a3 : tid ∉ p.ids
theorem Apart.l1 {p : LP} {mid memid tid : Nat} (h : Apart p mid memid tid) : p.did ∉ [memid, tid] ∧ p.dm ∉ [memid, tid] ∧ p.dt ∉ [memid, tid] := by
  have h2 := h.a2
  have h3 := h.a3
  simp [LP.ids] at h2 h3 ⊢
  omega
theorem y_end {mid memid tid : Nat} {L : List Sr} {fns : List CFn} {m m' : M} {k : Nat} {mem : List Int} {tch : List Bool} (hms : MS mid memid tid L fns mem tch m) (hk : k ≤ 1048576) (bs : List (Option (List PV))) (i j : Nat) (hij : i < 2 ∧ j < 2 ∧ i ≠ j) (hm : m' = m.ext bs)
    (hi : bs[i]? = some (some (List.replicate k (.v (.int .i32 0))))) (hj : bs[j]? = some (some (List.replicate k (.v (.bool false))))) (h2 : bs[2]? = some (some (lCells ⟨m.nb + 2, m.nb + i, m.nb + j⟩ (fun _ => 0) (fun _ => false) k 0 0))) :
    MS mid memid tid L fns mem tch m' ∧ LR ⟨m.nb + 2, m.nb + i, m.nb + j⟩ (fun _ => 0) (fun _ => false) ⟨List.replicate k 0, List.replicate k false, 0⟩ 0 m' ∧ Apart ⟨m.nb + 2, m.nb + i, m.nb + j⟩ mid memid tid := by
  subst hm
  have b1 := get_nb hms.gmid
  have b2 := get_nb hms.gmem
  have b3 := get_nb hms.gtch
  refine ⟨hms.ext bs, lr_new m k hk bs i j hi hj h2, ⟨by show m.nb + 2 ≠ m.nb + i; omega, by show m.nb + 2 ≠ m.nb + j; omega, by show m.nb + i ≠ m.nb + j; omega⟩, ?_, ?_, ?_⟩ <;> simp [LP.ids] <;> omega
theorem y_fin {A B C D : Prop} (h : A ∧ B ∧ C) (k : A → B → C → D) : D := k h.1 h.2.1 h.2.2
theorem mkStep_make {P : Program} {mu : List Nat} {o : Oper} {f : F} {m : M} {K : PV → M → Prop} {t : TypeId} {l c : Operand} (z : Value) (e : TypeId) (n : Nat) (hop : o.op = .makeSlice t l c) (h1 : ev f l = .v (.int .i64 n)) (h2 : ev f c = .v (.int .i64 n)) (hn : n ≤ maxLen) (hz : atom z = true) (hz1 : z.oneCell' = true)
    (hr : ∀ w : World, (Instr.makeSlice t (.int .i64 n) (.int .i64 n)).run P w = .ok (.slice (some ⟨w.heap.size, 0, none⟩) n n) (w.alloc (.cells (madeCells #[z] n) e))) (hK : K (.bs m.nb 0 n) (m.push (List.replicate n (.v z)))) : mkStep P mu o f m K := by
  unfold mkStep
  rw [hop]
  exact ⟨z, e, n, h1, h2, hn, hz, hz1, hr, hK⟩
theorem mkStep_op {P : Program} {mu : List Nat} {o : Oper} {f : F} {m : M} {K : PV → M → Prop} (h : ∀ X : PV → M → Prop, (∀ v m', K v m' → X v m') → aOp P mu noZ o f m X) (hn : ∀ t l c, o.op ≠ .makeSlice t l c) : mkStep P mu o f m K := by
  unfold mkStep
  split
  · rename_i t l c hop
    exact absurd hop (hn t l c)
  · exact h K (fun _ _ h => h)
theorem mkI (k : Nat) (hk : k ≤ 1048576) (w' : World) : (Instr.makeSlice 56 (.int .i64 k) (.int .i64 k)).run Try.prog w' = .ok (.slice (some ⟨w'.heap.size, 0, none⟩) k k) (w'.alloc (.cells (madeCells #[.int .i32 0] k) 21)) := by
  obtain ⟨i1, hi1, hz1⟩ : ∃ i, Try.prog.info? 21 = some i ∧ (i.zero, i.size, i.bytes) = (some (.int .i32 0), 1, 4) := Option.map_eq_some_iff.1 (show (Try.prog.info? 21).map (fun i => (i.zero, i.size, i.bytes)) = some (some (.int .i32 0), 1, 4) by kernel_rfl)
  simp only [Prod.mk.injEq] at hz1
  have := run_makeSlice w' 56 21 i1 (.int .i32 0) Try.underlying56 hi1 hz1.1 .i64 .i64 k k (by omega) (Int.le_refl _) (by rw [hz1.2.1]; omega) (by rw [hz1.2.2]; omega) (by omega)
  rw [this, hz1.2.1]
  simp [Value.cells]
theorem mkB (k : Nat) (hk : k ≤ 1048576) (w' : World) : (Instr.makeSlice 68 (.int .i64 k) (.int .i64 k)).run Try.prog w' = .ok (.slice (some ⟨w'.heap.size, 0, none⟩) k k) (w'.alloc (.cells (madeCells #[.bool false] k) 4)) := by
  obtain ⟨i1, hi1, hz1⟩ : ∃ i, Try.prog.info? 4 = some i ∧ (i.zero, i.size, i.bytes) = (some (.bool false), 1, 1) := Option.map_eq_some_iff.1 (show (Try.prog.info? 4).map (fun i => (i.zero, i.size, i.bytes)) = some (some (.bool false), 1, 1) by kernel_rfl)
  simp only [Prod.mk.injEq] at hz1
  have := run_makeSlice w' 68 4 i1 (.bool false) Try.underlying68 hi1 hz1.1 .i64 .i64 k k (by omega) (Int.le_refl _) (by rw [hz1.2.1]; omega) (by rw [hz1.2.2]; omega) (by omega)
  rw [this, hz1.2.1]
  simp [Value.cells]
end Go.Proofs.Ytepjjgnkhcjpcaa

/-
  The law CliteRuns.
-/
set_option linter.unusedVariables false
set_option linter.unusedSimpArgs false
namespace Go.Proofs.Ytepjjgnkhcjpcaa
open Nat renaming reduceEqDiff → jA, reduceAdd → jB, reduceMul → jC, reduceLT → jD, reduceLeDiff → jE, reduceBEq → jF, reduceBNe → jG
open Int renaming reduceLE → jH, reduceLT → jI, reduceToNat → jJ, reduceEq → jK
open Go
-- EXX: CE.settle_pv, CE.pure_pv, CE.cells_pv, CE.cs, CS.settle_pv, CS.pure_pv, CS.cells_pv, lCells
set_option maxRecDepth 20000
-- TNAMES: int; uint8; uint16; int32; string; bool; []uint8; *int; metronomelaw23.machine; *metronomelaw23.machine; [4]int32; [4]bool; clite.Machine; *clite.Machine; clite.Prog; []bool; []int32; []clite.Struct; []clite.Func; clite.Stmt; []clite.Stmt
set_option linter.defProp false
def tfCeRuns := And.intro @tfA (And.intro @Ex.settle_pv (And.intro @Ex.pure_pv (And.intro @Ex.cells_pv (And.intro @Ex.cs.eq_1 (And.intro @On.pv.eq_1 (And.intro @Ty.pv.eq_1 (And.intro @Va.settle_pv (And.intro @Va.pure_pv (And.intro @Va.cells_pv (And.intro @Va.cs.eq_1 (And.intro @CE.settle_pv (And.intro @CE.pure_pv (And.intro @CE.cells_pv (And.intro @CE.cs.eq_1 (And.intro @CS.settle_pv (And.intro @CS.pure_pv (And.intro @CS.cells_pv @lCells.eq_1)))))))))))))))))

set_option maxHeartbeats 16000000 in
theorem runs_main (l xs : List Int) (n u : Int) (hl : ∀ x ∈ l, 0 ≤ x ∧ x ≤ 255) (hx32 : ∀ x ∈ xs, R32 x) (hn : 0 ≤ n ∧ n ≤ 255) (hu : 0 ≤ u ∧ u ≤ 65535) (hl3 : l.length ≤ 300) (hx12 : xs.length ≤ 12) :
    ACalls Try.prog 6 [.sl .no (l.map pU), .sl .no (xs.map pJ), .v (.int .u8 n), .v (.int .u16 u)] M0 (fun v m' => v = .v (.bool true)) := by
  obtain ⟨k, hk, hk6⟩ := tmod_nat hn.1 6 (by omega)
  have hk' : n.tmod 6 = (k : Int) := hk
  have w0 : IntKind.i64.wrap n = n := wrap64 (by omega)
  have c1 : decide ((l.length : Int) > 300) = false := by simp; omega
  have c2 : decide ((xs.length : Int) > 12) = false := by simp; omega
  have ok1 : (⟨l, 0⟩ : CP).ok (M0.ext [some [.v (.int .i64 0)]]) := ⟨show (0 : Nat) < 1 by omega, hl3, hl⟩
  have x1 : ACalls Try.prog 23 [.sl .no (l.map pU), .bp 0 0, .v (.int .i64 3)] (M0.ext [some [.v (.int .i64 0)]]) (fun v m' => ∃ l' i', v = .sl .no (l'.map CS.pv) ∧ CS.mades l' ∧ m' = M0.ext [some [.v (.int .i64 ((i' : Nat) : Int))]]) := body_any 3 (by omega) ⟨l, 0⟩ _ ok1 0
  obtain ⟨Xf, hXf⟩ : ∃ Xf : F → M → Prop, ∀ f m, Xf f m = (∃ (body : List CS) (mid memid tid : Nat), f 1 = .sl .no (xs.map pJ) ∧ f 3 = .v (.int .u16 u) ∧ f 10 = .sl .no (body.map CS.pv) ∧ f 11 = .v (.int .i64 k) ∧ f 12 = .bp mid 0 ∧ CS.mades body ∧ MS mid memid tid progL (progF body) (List.replicate k 0) (List.replicate k false) m) := ⟨_, fun _ _ => rfl⟩
  obtain ⟨Yf, hYf⟩ : ∃ Yf : F → M → Prop, ∀ f m, Yf f m = (∃ (body : List CS) (mid memid tid : Nat) (p : LP), f 1 = .sl .no (xs.map pJ) ∧ f 3 = .v (.int .u16 u) ∧ f 10 = .sl .no (body.map CS.pv) ∧ f 11 = .v (.int .i64 k) ∧ f 12 = .bp mid 0 ∧ f 14 = .bp p.did 0 ∧ CS.mades body ∧ MS mid memid tid progL (progF body) (List.replicate k 0) (List.replicate k false) m ∧ LR p (fun _ => 0) (fun _ => false) ⟨List.replicate k 0, List.replicate k false, 0⟩ 0 m ∧ Apart p mid memid tid) := ⟨_, fun _ _ => rfl⟩
  refine ACalls.enterR (mu := [9, 55]) (l := [_, _, _, _, _, _, _]) ok_mix Try.func6 rfl (by kernel_rfl) ?_ (by kernel_rfl) (by kernel_rfl) (by simp only [List.length_cons, List.length_nil, Try.ntmps6]; omega) Xf Yf ?_ ?_ ?_
  · intro A hA
    simp only [List.mem_cons, List.not_mem_nil, or_false] at hA
    rcases hA with rfl | rfl | rfl | rfl | rfl | rfl | rfl <;> kernel_rfl
  · unfold aPre
    (repeat (first | refine aSeq fun X hX => ?_ | refine aBlk ?_ | refine aSkip ?_ | (first | refine aExit ?_ | refine aRet ?_); try simp only [slx, ↓reduceIte, Nat.reduceEqDiff, reduceCtorEq] | (first | refine aReg ?_ | refine aDrE ?_); simp -implicitDefEqProofs only [forall_eq, ↓slp, slb, ↓reduceIte, reduceCtorEq, jA, jB, jC, jD, jE, jF, jG, jH, jI, jJ, jK, tfCeRuns, c1, c2] | refine hX _ _ ?_; clear hX X | clear hX X; refine hX _ _ ?_; clear hX X | clear hX X; clear hX X; refine hX _ _ ?_; clear hX X | intro hlen; unfold maxLen at hlen | apply And.intro; focus (first | omega | assumption | (repeat' apply And.intro) <;> first | omega | assumption)))
    refine callE (awakeC _) ?_
    simp -implicitDefEqProofs only [↓slp, slb, ↓reduceIte, reduceCtorEq, jA, jB, jC, jD, jE, jF, jG, jH, jI, jJ, jK, tfCeRuns, c1, c2]
    (repeat (first | refine aSeq fun X hX => ?_ | refine aBlk ?_ | refine aSkip ?_ | (first | refine aExit ?_ | refine aRet ?_); try simp only [slx, ↓reduceIte, Nat.reduceEqDiff, reduceCtorEq] | (first | refine aReg ?_ | refine aDrE ?_); simp -implicitDefEqProofs only [forall_eq, ↓slp, slb, ↓reduceIte, reduceCtorEq, jA, jB, jC, jD, jE, jF, jG, jH, jI, jJ, jK, tfCeRuns, c1, c2] | refine hX _ _ ?_; clear hX X | clear hX X; refine hX _ _ ?_; clear hX X | clear hX X; clear hX X; refine hX _ _ ?_; clear hX X | intro hlen; unfold maxLen at hlen | apply And.intro; focus (first | omega | assumption | (repeat' apply And.intro) <;> first | omega | assumption)))
    refine aIf ?_; simp -implicitDefEqProofs only [↓slp, slb, ↓reduceIte, reduceCtorEq, jA, jB, jC, jD, jE, jF, jG, jH, jI, jJ, jK]
    (repeat (first | refine aSeq fun X hX => ?_ | refine aBlk ?_ | refine aSkip ?_ | (first | refine aExit ?_ | refine aRet ?_); try simp only [slx, ↓reduceIte, Nat.reduceEqDiff, reduceCtorEq] | (first | refine aReg ?_ | refine aDrE ?_); simp -implicitDefEqProofs only [forall_eq, ↓slp, slb, ↓reduceIte, reduceCtorEq, jA, jB, jC, jD, jE, jF, jG, jH, jI, jJ, jK, tfCeRuns] | refine hX _ _ ?_; clear hX X | clear hX X; refine hX _ _ ?_; clear hX X | clear hX X; clear hX X; refine hX _ _ ?_; clear hX X | intro hlen; unfold maxLen at hlen | apply And.intro; focus (first | omega | assumption | (repeat' apply And.intro) <;> first | omega | assumption)))
    refine ⟨rfl, ?_⟩
    (repeat (first | refine aSeq fun X hX => ?_ | refine aBlk ?_ | refine aSkip ?_ | (first | refine aExit ?_ | refine aRet ?_); try simp only [slx, ↓reduceIte, Nat.reduceEqDiff, reduceCtorEq] | (first | refine aReg ?_ | refine aDrE ?_); simp -implicitDefEqProofs only [forall_eq, ↓slp, slb, ↓reduceIte, reduceCtorEq, jA, jB, jC, jD, jE, jF, jG, jH, jI, jJ, jK, tfCeRuns] | refine hX _ _ ?_; clear hX X | clear hX X; refine hX _ _ ?_; clear hX X | clear hX X; clear hX X; refine hX _ _ ?_; clear hX X | intro hlen; unfold maxLen at hlen | apply And.intro; focus (first | omega | assumption | (repeat' apply And.intro) <;> first | omega | assumption)))
    refine callM x1 ?_
    rintro v m' ⟨body, i1, rfl, hmade, rfl⟩
    simp -implicitDefEqProofs only [↓slp, slb, ↓reduceIte, reduceCtorEq, jA, jB, jC, jD, jE, jF, jG, jH, jI, jJ, jK, tfCeRuns]
    (repeat (first | refine aSeq fun X hX => ?_ | refine aBlk ?_ | refine aSkip ?_ | (first | refine aExit ?_ | refine aRet ?_); try simp only [slx, ↓reduceIte, Nat.reduceEqDiff, reduceCtorEq] | (first | refine aReg ?_ | refine aDrE ?_); simp -implicitDefEqProofs only [forall_eq, ↓slp, slb, ↓reduceIte, reduceCtorEq, jA, jB, jC, jD, jE, jF, jG, jH, jI, jJ, jK, tfCeRuns, w0, hk'] | refine hX _ _ ?_; clear hX X | clear hX X; refine hX _ _ ?_; clear hX X | clear hX X; clear hX X; refine hX _ _ ?_; clear hX X | intro hlen; unfold maxLen at hlen | apply And.intro; focus (first | omega | assumption | (repeat' apply And.intro) <;> first | omega | assumption)))
    refine callE (prog_any .no body _) ?_
    simp -implicitDefEqProofs only [↓slp, slb, ↓reduceIte, reduceCtorEq, jA, jB, jC, jD, jE, jF, jG, jH, jI, jJ, jK, tfCeRuns]
    refine callM (newMS_any (L := progL) (fns := progF body) k (by omega) _) ?_
    rintro v m' ⟨rfl, hms, _, _, _⟩
    simp -implicitDefEqProofs only [↓slp, slb, ↓reduceIte, reduceCtorEq, jA, jB, jC, jD, jE, jF, jG, jH, jI, jJ, jK, tfCeRuns]
    (repeat (first | refine aSeq fun X hX => ?_ | refine aBlk ?_ | refine aSkip ?_ | (first | refine aExit ?_ | refine aRet ?_); try simp only [slx, ↓reduceIte, Nat.reduceEqDiff, reduceCtorEq] | (first | refine aReg ?_ | refine aDrE ?_); simp -implicitDefEqProofs only [forall_eq, ↓slp, slb, ↓reduceIte, reduceCtorEq, jA, jB, jC, jD, jE, jF, jG, jH, jI, jJ, jK, tfCeRuns] | refine hX _ _ ?_; clear hX X | clear hX X; refine hX _ _ ?_; clear hX X | clear hX X; clear hX X; refine hX _ _ ?_; clear hX X | intro hlen; unfold maxLen at hlen | apply And.intro; focus (first | omega | assumption | (repeat' apply And.intro) <;> first | omega | assumption)))
    refine aIf ?_; simp -implicitDefEqProofs only [↓slp, slb, ↓reduceIte, reduceCtorEq, jA, jB, jC, jD, jE, jF, jG, jH, jI, jJ, jK]
    (repeat (first | refine aSeq fun X hX => ?_ | refine aBlk ?_ | refine aSkip ?_ | (first | refine aExit ?_ | refine aRet ?_); try simp only [slx, ↓reduceIte, Nat.reduceEqDiff, reduceCtorEq] | (first | refine aReg ?_ | refine aDrE ?_); simp -implicitDefEqProofs only [forall_eq, ↓slp, slb, ↓reduceIte, reduceCtorEq, jA, jB, jC, jD, jE, jF, jG, jH, jI, jJ, jK, tfCeRuns] | refine hX _ _ ?_; clear hX X | clear hX X; refine hX _ _ ?_; clear hX X | clear hX X; clear hX X; refine hX _ _ ?_; clear hX X | intro hlen; unfold maxLen at hlen | apply And.intro; focus (first | omega | assumption | (repeat' apply And.intro) <;> first | omega | assumption)))
    refine ⟨rfl, ?_⟩
    show Xf _ _
    rw [hXf]
    exact ⟨body, _, _, _, rfl, rfl, rfl, rfl, rfl, hmade, hms⟩
  · intro f m hx
    rw [hXf] at hx
    obtain ⟨body, mid, memid, tid, f1, f3, f10, f11, f12, hmade, hms⟩ := hx
    refine aAny_s [0, 2] (by kernel_rfl) (by simp) ?_
    intro i hi
    simp only [List.mem_cons, List.not_mem_nil, or_false] at hi
    rcases hi with rfl | rfl
    · refine ⟨_, List.getElem?_toArray.trans List.getElem?_cons_zero, rfl, ?_⟩
      refine mkStep_op (fun X hX => ?_) (by rintro _ _ _ ⟨⟩)
      rw [aOp_d]
      simp -implicitDefEqProofs only [↓slp, slb, ↓reduceIte, reduceCtorEq, jA, jB, jC, jD, jE, jF, jG, jH, jI, jJ, jK, tfCeRuns, f11]
      refine hX _ _ ?_
      clear hX X
      refine aAny_s [1, 2] (by kernel_rfl) (by simp) ?_
      intro i hi
      simp only [List.mem_cons, List.not_mem_nil, or_false] at hi
      rcases hi with rfl | rfl
      · refine ⟨_, List.getElem?_toArray.trans (List.getElem?_cons_succ.trans List.getElem?_cons_zero), rfl, ?_⟩
        refine mkStep_make (.int .i32 0) 21 k rfl (by simp -implicitDefEqProofs only [↓slp, slb, ↓reduceIte, reduceCtorEq, jA, jB, jC, jD, jE, jF, jG, jH, jI, jJ, jK, tfCeRuns, f11]) (by simp -implicitDefEqProofs only [↓slp, slb, ↓reduceIte, reduceCtorEq, jA, jB, jC, jD, jE, jF, jG, jH, jI, jJ, jK, tfCeRuns, f11]) (by unfold maxLen; omega) rfl rfl (mkI k (by omega)) ?_
        refine aAny_s [2] (by kernel_rfl) (by simp) ?_
        intro i hi
        simp only [List.mem_cons, List.not_mem_nil, or_false] at hi
        subst hi
        refine ⟨_, List.getElem?_toArray.trans (List.getElem?_cons_succ.trans (List.getElem?_cons_succ.trans List.getElem?_cons_zero)), rfl, ?_⟩
        refine mkStep_op (fun X hX => ?_) (by rintro _ _ _ ⟨⟩)
        rw [aOp_d]
        simp -implicitDefEqProofs only [↓slp, slb, ↓reduceIte, reduceCtorEq, jA, jB, jC, jD, jE, jF, jG, jH, jI, jJ, jK, tfCeRuns, f11]
        refine hX _ _ ?_
        clear hX X
        refine aAny_s [3] (by kernel_rfl) (by simp) ?_
        intro i hi
        simp only [List.mem_cons, List.not_mem_nil, or_false] at hi
        subst hi
        refine ⟨_, List.getElem?_toArray.trans (List.getElem?_cons_succ.trans (List.getElem?_cons_succ.trans (List.getElem?_cons_succ.trans List.getElem?_cons_zero))), rfl, ?_⟩
        refine mkStep_make (.bool false) 4 k rfl (by simp -implicitDefEqProofs only [↓slp, slb, ↓reduceIte, reduceCtorEq, jA, jB, jC, jD, jE, jF, jG, jH, jI, jJ, jK, tfCeRuns, f11]) (by simp -implicitDefEqProofs only [↓slp, slb, ↓reduceIte, reduceCtorEq, jA, jB, jC, jD, jE, jF, jG, jH, jI, jJ, jK, tfCeRuns, f11]) (by unfold maxLen; omega) rfl rfl (mkB k (by omega)) ?_
        refine aAny_s [4] (by kernel_rfl) (by simp) ?_
        intro i hi
        simp only [List.mem_cons, List.not_mem_nil, or_false] at hi
        subst hi
        refine ⟨_, List.getElem?_toArray.trans (List.getElem?_cons_succ.trans (List.getElem?_cons_succ.trans (List.getElem?_cons_succ.trans (List.getElem?_cons_succ.trans List.getElem?_cons_zero)))), rfl, ?_⟩
        refine mkStep_op (fun X hX => ?_) (by rintro _ _ _ ⟨⟩)
        rw [aOp_d]
        simp -implicitDefEqProofs only [↓slp, slb, ↓reduceIte, reduceCtorEq, jA, jB, jC, jD, jE, jF, jG, jH, jI, jJ, jK, tfCeRuns, f11]
        refine hX _ _ ?_
        clear hX X
        refine aAny_s [5] (by kernel_rfl) (by simp) ?_
        intro i hi
        simp only [List.mem_cons, List.not_mem_nil, or_false] at hi
        subst hi
        refine ⟨_, List.getElem?_toArray.trans (List.getElem?_cons_succ.trans (List.getElem?_cons_succ.trans (List.getElem?_cons_succ.trans (List.getElem?_cons_succ.trans (List.getElem?_cons_succ.trans List.getElem?_cons_zero))))), rfl, ?_⟩
        refine mkStep_op (fun X hX => ?_) (by rintro _ _ _ ⟨⟩)
        rw [aOp_d]
        simp -implicitDefEqProofs only [↓slp, slb, ↓reduceIte, reduceCtorEq, jA, jB, jC, jD, jE, jF, jG, jH, jI, jJ, jK, tfCeRuns, f11]
        refine hX _ _ ?_
        clear hX X
        refine aAny_s [6] (by kernel_rfl) (by simp) ?_
        intro i hi
        simp only [List.mem_cons, List.not_mem_nil, or_false] at hi
        subst hi
        refine ⟨_, List.getElem?_toArray.trans (List.getElem?_cons_succ.trans (List.getElem?_cons_succ.trans (List.getElem?_cons_succ.trans (List.getElem?_cons_succ.trans (List.getElem?_cons_succ.trans (List.getElem?_cons_succ.trans List.getElem?_cons_zero)))))), rfl, ?_⟩
        refine mkStep_op (fun X hX => ?_) (by rintro _ _ _ ⟨⟩)
        rw [aOp_d]
        simp -implicitDefEqProofs only [↓slp, slb, ↓reduceIte, reduceCtorEq, jA, jB, jC, jD, jE, jF, jG, jH, jI, jJ, jK, tfCeRuns, f11]
        refine hX _ _ ?_
        clear hX X
        refine ⟨by kernel_rfl, ?_⟩
        rw [hYf]; exact y_fin (y_end (k := k) hms (by omega) [some (List.replicate k (.v (.int .i32 0))), some (List.replicate k (.v (.bool false))), some (lCells ⟨m.nb + 2, m.nb + 0, m.nb + 1⟩ (fun _ => 0) (fun _ => false) k 0 0)] 0 1 (by omega) (by first | rfl | (simp only [push_ext, ext_ext, List.cons_append, List.nil_append, push_nb1, ext_nb, List.length_cons, List.length_nil]; rfl)) rfl rfl rfl) fun z1 z2 z3 => ⟨body, mid, memid, tid, _, (by simp -implicitDefEqProofs only [↓slp, slb, ↓reduceIte, reduceCtorEq, jA, jB, jC, jD, jE, jF, jG, jH, jI, jJ, jK, tfCeRuns, f1]), (by simp -implicitDefEqProofs only [↓slp, slb, ↓reduceIte, reduceCtorEq, jA, jB, jC, jD, jE, jF, jG, jH, jI, jJ, jK, tfCeRuns, f3]), (by simp -implicitDefEqProofs only [↓slp, slb, ↓reduceIte, reduceCtorEq, jA, jB, jC, jD, jE, jF, jG, jH, jI, jJ, jK, tfCeRuns, f10]), (by simp -implicitDefEqProofs only [↓slp, slb, ↓reduceIte, reduceCtorEq, jA, jB, jC, jD, jE, jF, jG, jH, jI, jJ, jK, tfCeRuns, f11]), (by simp -implicitDefEqProofs only [↓slp, slb, ↓reduceIte, reduceCtorEq, jA, jB, jC, jD, jE, jF, jG, jH, jI, jJ, jK, tfCeRuns, f12]), (by simp -implicitDefEqProofs only [↓slp, slb, ↓reduceIte, reduceCtorEq, jA, jB, jC, jD, jE, jF, jG, jH, jI, jJ, jK, tfCeRuns, f1]), hmade, z1, z2, z3⟩
      · refine ⟨_, List.getElem?_toArray.trans (List.getElem?_cons_succ.trans (List.getElem?_cons_succ.trans List.getElem?_cons_zero)), rfl, ?_⟩
        refine mkStep_op (fun X hX => ?_) (by rintro _ _ _ ⟨⟩)
        rw [aOp_d]
        simp -implicitDefEqProofs only [↓slp, slb, ↓reduceIte, reduceCtorEq, jA, jB, jC, jD, jE, jF, jG, jH, jI, jJ, jK, tfCeRuns, f11]
        refine hX _ _ ?_
        clear hX X
        refine aAny_s [1, 3] (by kernel_rfl) (by simp) ?_
        intro i hi
        simp only [List.mem_cons, List.not_mem_nil, or_false] at hi
        rcases hi with rfl | rfl
        · refine ⟨_, List.getElem?_toArray.trans (List.getElem?_cons_succ.trans List.getElem?_cons_zero), rfl, ?_⟩
          refine mkStep_make (.int .i32 0) 21 k rfl (by simp -implicitDefEqProofs only [↓slp, slb, ↓reduceIte, reduceCtorEq, jA, jB, jC, jD, jE, jF, jG, jH, jI, jJ, jK, tfCeRuns, f11]) (by simp -implicitDefEqProofs only [↓slp, slb, ↓reduceIte, reduceCtorEq, jA, jB, jC, jD, jE, jF, jG, jH, jI, jJ, jK, tfCeRuns, f11]) (by unfold maxLen; omega) rfl rfl (mkI k (by omega)) ?_
          refine aAny_s [3] (by kernel_rfl) (by simp) ?_
          intro i hi
          simp only [List.mem_cons, List.not_mem_nil, or_false] at hi
          subst hi
          refine ⟨_, List.getElem?_toArray.trans (List.getElem?_cons_succ.trans (List.getElem?_cons_succ.trans (List.getElem?_cons_succ.trans List.getElem?_cons_zero))), rfl, ?_⟩
          refine mkStep_make (.bool false) 4 k rfl (by simp -implicitDefEqProofs only [↓slp, slb, ↓reduceIte, reduceCtorEq, jA, jB, jC, jD, jE, jF, jG, jH, jI, jJ, jK, tfCeRuns, f11]) (by simp -implicitDefEqProofs only [↓slp, slb, ↓reduceIte, reduceCtorEq, jA, jB, jC, jD, jE, jF, jG, jH, jI, jJ, jK, tfCeRuns, f11]) (by unfold maxLen; omega) rfl rfl (mkB k (by omega)) ?_
          refine aAny_s [4] (by kernel_rfl) (by simp) ?_
          intro i hi
          simp only [List.mem_cons, List.not_mem_nil, or_false] at hi
          subst hi
          refine ⟨_, List.getElem?_toArray.trans (List.getElem?_cons_succ.trans (List.getElem?_cons_succ.trans (List.getElem?_cons_succ.trans (List.getElem?_cons_succ.trans List.getElem?_cons_zero)))), rfl, ?_⟩
          refine mkStep_op (fun X hX => ?_) (by rintro _ _ _ ⟨⟩)
          rw [aOp_d]
          simp -implicitDefEqProofs only [↓slp, slb, ↓reduceIte, reduceCtorEq, jA, jB, jC, jD, jE, jF, jG, jH, jI, jJ, jK, tfCeRuns, f11]
          refine hX _ _ ?_
          clear hX X
          refine aAny_s [5] (by kernel_rfl) (by simp) ?_
          intro i hi
          simp only [List.mem_cons, List.not_mem_nil, or_false] at hi
          subst hi
          refine ⟨_, List.getElem?_toArray.trans (List.getElem?_cons_succ.trans (List.getElem?_cons_succ.trans (List.getElem?_cons_succ.trans (List.getElem?_cons_succ.trans (List.getElem?_cons_succ.trans List.getElem?_cons_zero))))), rfl, ?_⟩
          refine mkStep_op (fun X hX => ?_) (by rintro _ _ _ ⟨⟩)
          rw [aOp_d]
          simp -implicitDefEqProofs only [↓slp, slb, ↓reduceIte, reduceCtorEq, jA, jB, jC, jD, jE, jF, jG, jH, jI, jJ, jK, tfCeRuns, f11]
          refine hX _ _ ?_
          clear hX X
          refine aAny_s [6] (by kernel_rfl) (by simp) ?_
          intro i hi
          simp only [List.mem_cons, List.not_mem_nil, or_false] at hi
          subst hi
          refine ⟨_, List.getElem?_toArray.trans (List.getElem?_cons_succ.trans (List.getElem?_cons_succ.trans (List.getElem?_cons_succ.trans (List.getElem?_cons_succ.trans (List.getElem?_cons_succ.trans (List.getElem?_cons_succ.trans List.getElem?_cons_zero)))))), rfl, ?_⟩
          refine mkStep_op (fun X hX => ?_) (by rintro _ _ _ ⟨⟩)
          rw [aOp_d]
          simp -implicitDefEqProofs only [↓slp, slb, ↓reduceIte, reduceCtorEq, jA, jB, jC, jD, jE, jF, jG, jH, jI, jJ, jK, tfCeRuns, f11]
          refine hX _ _ ?_
          clear hX X
          refine ⟨by kernel_rfl, ?_⟩
          rw [hYf]; exact y_fin (y_end (k := k) hms (by omega) [some (List.replicate k (.v (.int .i32 0))), some (List.replicate k (.v (.bool false))), some (lCells ⟨m.nb + 2, m.nb + 0, m.nb + 1⟩ (fun _ => 0) (fun _ => false) k 0 0)] 0 1 (by omega) (by first | rfl | (simp only [push_ext, ext_ext, List.cons_append, List.nil_append, push_nb1, ext_nb, List.length_cons, List.length_nil]; rfl)) rfl rfl rfl) fun z1 z2 z3 => ⟨body, mid, memid, tid, _, (by simp -implicitDefEqProofs only [↓slp, slb, ↓reduceIte, reduceCtorEq, jA, jB, jC, jD, jE, jF, jG, jH, jI, jJ, jK, tfCeRuns, f1]), (by simp -implicitDefEqProofs only [↓slp, slb, ↓reduceIte, reduceCtorEq, jA, jB, jC, jD, jE, jF, jG, jH, jI, jJ, jK, tfCeRuns, f3]), (by simp -implicitDefEqProofs only [↓slp, slb, ↓reduceIte, reduceCtorEq, jA, jB, jC, jD, jE, jF, jG, jH, jI, jJ, jK, tfCeRuns, f10]), (by simp -implicitDefEqProofs only [↓slp, slb, ↓reduceIte, reduceCtorEq, jA, jB, jC, jD, jE, jF, jG, jH, jI, jJ, jK, tfCeRuns, f11]), (by simp -implicitDefEqProofs only [↓slp, slb, ↓reduceIte, reduceCtorEq, jA, jB, jC, jD, jE, jF, jG, jH, jI, jJ, jK, tfCeRuns, f12]), (by simp -implicitDefEqProofs only [↓slp, slb, ↓reduceIte, reduceCtorEq, jA, jB, jC, jD, jE, jF, jG, jH, jI, jJ, jK, tfCeRuns, f1]), hmade, z1, z2, z3⟩
        · refine ⟨_, List.getElem?_toArray.trans (List.getElem?_cons_succ.trans (List.getElem?_cons_succ.trans (List.getElem?_cons_succ.trans List.getElem?_cons_zero))), rfl, ?_⟩
          refine mkStep_make (.bool false) 4 k rfl (by simp -implicitDefEqProofs only [↓slp, slb, ↓reduceIte, reduceCtorEq, jA, jB, jC, jD, jE, jF, jG, jH, jI, jJ, jK, tfCeRuns, f11]) (by simp -implicitDefEqProofs only [↓slp, slb, ↓reduceIte, reduceCtorEq, jA, jB, jC, jD, jE, jF, jG, jH, jI, jJ, jK, tfCeRuns, f11]) (by unfold maxLen; omega) rfl rfl (mkB k (by omega)) ?_
          refine aAny_s [1] (by kernel_rfl) (by simp) ?_
          intro i hi
          simp only [List.mem_cons, List.not_mem_nil, or_false] at hi
          subst hi
          refine ⟨_, List.getElem?_toArray.trans (List.getElem?_cons_succ.trans List.getElem?_cons_zero), rfl, ?_⟩
          refine mkStep_make (.int .i32 0) 21 k rfl (by simp -implicitDefEqProofs only [↓slp, slb, ↓reduceIte, reduceCtorEq, jA, jB, jC, jD, jE, jF, jG, jH, jI, jJ, jK, tfCeRuns, f11]) (by simp -implicitDefEqProofs only [↓slp, slb, ↓reduceIte, reduceCtorEq, jA, jB, jC, jD, jE, jF, jG, jH, jI, jJ, jK, tfCeRuns, f11]) (by unfold maxLen; omega) rfl rfl (mkI k (by omega)) ?_
          refine aAny_s [4] (by kernel_rfl) (by simp) ?_
          intro i hi
          simp only [List.mem_cons, List.not_mem_nil, or_false] at hi
          subst hi
          refine ⟨_, List.getElem?_toArray.trans (List.getElem?_cons_succ.trans (List.getElem?_cons_succ.trans (List.getElem?_cons_succ.trans (List.getElem?_cons_succ.trans List.getElem?_cons_zero)))), rfl, ?_⟩
          refine mkStep_op (fun X hX => ?_) (by rintro _ _ _ ⟨⟩)
          rw [aOp_d]
          simp -implicitDefEqProofs only [↓slp, slb, ↓reduceIte, reduceCtorEq, jA, jB, jC, jD, jE, jF, jG, jH, jI, jJ, jK, tfCeRuns, f11]
          refine hX _ _ ?_
          clear hX X
          refine aAny_s [5] (by kernel_rfl) (by simp) ?_
          intro i hi
          simp only [List.mem_cons, List.not_mem_nil, or_false] at hi
          subst hi
          refine ⟨_, List.getElem?_toArray.trans (List.getElem?_cons_succ.trans (List.getElem?_cons_succ.trans (List.getElem?_cons_succ.trans (List.getElem?_cons_succ.trans (List.getElem?_cons_succ.trans List.getElem?_cons_zero))))), rfl, ?_⟩
          refine mkStep_op (fun X hX => ?_) (by rintro _ _ _ ⟨⟩)
          rw [aOp_d]
          simp -implicitDefEqProofs only [↓slp, slb, ↓reduceIte, reduceCtorEq, jA, jB, jC, jD, jE, jF, jG, jH, jI, jJ, jK, tfCeRuns, f11]
          refine hX _ _ ?_
          clear hX X
          refine aAny_s [6] (by kernel_rfl) (by simp) ?_
          intro i hi
          simp only [List.mem_cons, List.not_mem_nil, or_false] at hi
          subst hi
          refine ⟨_, List.getElem?_toArray.trans (List.getElem?_cons_succ.trans (List.getElem?_cons_succ.trans (List.getElem?_cons_succ.trans (List.getElem?_cons_succ.trans (List.getElem?_cons_succ.trans (List.getElem?_cons_succ.trans List.getElem?_cons_zero)))))), rfl, ?_⟩
          refine mkStep_op (fun X hX => ?_) (by rintro _ _ _ ⟨⟩)
          rw [aOp_d]
          simp -implicitDefEqProofs only [↓slp, slb, ↓reduceIte, reduceCtorEq, jA, jB, jC, jD, jE, jF, jG, jH, jI, jJ, jK, tfCeRuns, f11]
          refine hX _ _ ?_
          clear hX X
          refine ⟨by kernel_rfl, ?_⟩
          rw [hYf]; exact y_fin (y_end (k := k) hms (by omega) [some (List.replicate k (.v (.bool false))), some (List.replicate k (.v (.int .i32 0))), some (lCells ⟨m.nb + 2, m.nb + 1, m.nb + 0⟩ (fun _ => 0) (fun _ => false) k 0 0)] 1 0 (by omega) (by first | rfl | (simp only [push_ext, ext_ext, List.cons_append, List.nil_append, push_nb1, ext_nb, List.length_cons, List.length_nil]; rfl)) rfl rfl rfl) fun z1 z2 z3 => ⟨body, mid, memid, tid, _, (by simp -implicitDefEqProofs only [↓slp, slb, ↓reduceIte, reduceCtorEq, jA, jB, jC, jD, jE, jF, jG, jH, jI, jJ, jK, tfCeRuns, f1]), (by simp -implicitDefEqProofs only [↓slp, slb, ↓reduceIte, reduceCtorEq, jA, jB, jC, jD, jE, jF, jG, jH, jI, jJ, jK, tfCeRuns, f3]), (by simp -implicitDefEqProofs only [↓slp, slb, ↓reduceIte, reduceCtorEq, jA, jB, jC, jD, jE, jF, jG, jH, jI, jJ, jK, tfCeRuns, f10]), (by simp -implicitDefEqProofs only [↓slp, slb, ↓reduceIte, reduceCtorEq, jA, jB, jC, jD, jE, jF, jG, jH, jI, jJ, jK, tfCeRuns, f11]), (by simp -implicitDefEqProofs only [↓slp, slb, ↓reduceIte, reduceCtorEq, jA, jB, jC, jD, jE, jF, jG, jH, jI, jJ, jK, tfCeRuns, f12]), (by simp -implicitDefEqProofs only [↓slp, slb, ↓reduceIte, reduceCtorEq, jA, jB, jC, jD, jE, jF, jG, jH, jI, jJ, jK, tfCeRuns, f1]), hmade, z1, z2, z3⟩
    · refine ⟨_, List.getElem?_toArray.trans (List.getElem?_cons_succ.trans (List.getElem?_cons_succ.trans List.getElem?_cons_zero)), rfl, ?_⟩
      refine mkStep_op (fun X hX => ?_) (by rintro _ _ _ ⟨⟩)
      rw [aOp_d]
      simp -implicitDefEqProofs only [↓slp, slb, ↓reduceIte, reduceCtorEq, jA, jB, jC, jD, jE, jF, jG, jH, jI, jJ, jK, tfCeRuns, f11]
      refine hX _ _ ?_
      clear hX X
      refine aAny_s [0, 3] (by kernel_rfl) (by simp) ?_
      intro i hi
      simp only [List.mem_cons, List.not_mem_nil, or_false] at hi
      rcases hi with rfl | rfl
      · refine ⟨_, List.getElem?_toArray.trans List.getElem?_cons_zero, rfl, ?_⟩
        refine mkStep_op (fun X hX => ?_) (by rintro _ _ _ ⟨⟩)
        rw [aOp_d]
        simp -implicitDefEqProofs only [↓slp, slb, ↓reduceIte, reduceCtorEq, jA, jB, jC, jD, jE, jF, jG, jH, jI, jJ, jK, tfCeRuns, f11]
        refine hX _ _ ?_
        clear hX X
        refine aAny_s [1, 3] (by kernel_rfl) (by simp) ?_
        intro i hi
        simp only [List.mem_cons, List.not_mem_nil, or_false] at hi
        rcases hi with rfl | rfl
        · refine ⟨_, List.getElem?_toArray.trans (List.getElem?_cons_succ.trans List.getElem?_cons_zero), rfl, ?_⟩
          refine mkStep_make (.int .i32 0) 21 k rfl (by simp -implicitDefEqProofs only [↓slp, slb, ↓reduceIte, reduceCtorEq, jA, jB, jC, jD, jE, jF, jG, jH, jI, jJ, jK, tfCeRuns, f11]) (by simp -implicitDefEqProofs only [↓slp, slb, ↓reduceIte, reduceCtorEq, jA, jB, jC, jD, jE, jF, jG, jH, jI, jJ, jK, tfCeRuns, f11]) (by unfold maxLen; omega) rfl rfl (mkI k (by omega)) ?_
          refine aAny_s [3] (by kernel_rfl) (by simp) ?_
          intro i hi
          simp only [List.mem_cons, List.not_mem_nil, or_false] at hi
          subst hi
          refine ⟨_, List.getElem?_toArray.trans (List.getElem?_cons_succ.trans (List.getElem?_cons_succ.trans (List.getElem?_cons_succ.trans List.getElem?_cons_zero))), rfl, ?_⟩
          refine mkStep_make (.bool false) 4 k rfl (by simp -implicitDefEqProofs only [↓slp, slb, ↓reduceIte, reduceCtorEq, jA, jB, jC, jD, jE, jF, jG, jH, jI, jJ, jK, tfCeRuns, f11]) (by simp -implicitDefEqProofs only [↓slp, slb, ↓reduceIte, reduceCtorEq, jA, jB, jC, jD, jE, jF, jG, jH, jI, jJ, jK, tfCeRuns, f11]) (by unfold maxLen; omega) rfl rfl (mkB k (by omega)) ?_
          refine aAny_s [4] (by kernel_rfl) (by simp) ?_
          intro i hi
          simp only [List.mem_cons, List.not_mem_nil, or_false] at hi
          subst hi
          refine ⟨_, List.getElem?_toArray.trans (List.getElem?_cons_succ.trans (List.getElem?_cons_succ.trans (List.getElem?_cons_succ.trans (List.getElem?_cons_succ.trans List.getElem?_cons_zero)))), rfl, ?_⟩
          refine mkStep_op (fun X hX => ?_) (by rintro _ _ _ ⟨⟩)
          rw [aOp_d]
          simp -implicitDefEqProofs only [↓slp, slb, ↓reduceIte, reduceCtorEq, jA, jB, jC, jD, jE, jF, jG, jH, jI, jJ, jK, tfCeRuns, f11]
          refine hX _ _ ?_
          clear hX X
          refine aAny_s [5] (by kernel_rfl) (by simp) ?_
          intro i hi
          simp only [List.mem_cons, List.not_mem_nil, or_false] at hi
          subst hi
          refine ⟨_, List.getElem?_toArray.trans (List.getElem?_cons_succ.trans (List.getElem?_cons_succ.trans (List.getElem?_cons_succ.trans (List.getElem?_cons_succ.trans (List.getElem?_cons_succ.trans List.getElem?_cons_zero))))), rfl, ?_⟩
          refine mkStep_op (fun X hX => ?_) (by rintro _ _ _ ⟨⟩)
          rw [aOp_d]
          simp -implicitDefEqProofs only [↓slp, slb, ↓reduceIte, reduceCtorEq, jA, jB, jC, jD, jE, jF, jG, jH, jI, jJ, jK, tfCeRuns, f11]
          refine hX _ _ ?_
          clear hX X
          refine aAny_s [6] (by kernel_rfl) (by simp) ?_
          intro i hi
          simp only [List.mem_cons, List.not_mem_nil, or_false] at hi
          subst hi
          refine ⟨_, List.getElem?_toArray.trans (List.getElem?_cons_succ.trans (List.getElem?_cons_succ.trans (List.getElem?_cons_succ.trans (List.getElem?_cons_succ.trans (List.getElem?_cons_succ.trans (List.getElem?_cons_succ.trans List.getElem?_cons_zero)))))), rfl, ?_⟩
          refine mkStep_op (fun X hX => ?_) (by rintro _ _ _ ⟨⟩)
          rw [aOp_d]
          simp -implicitDefEqProofs only [↓slp, slb, ↓reduceIte, reduceCtorEq, jA, jB, jC, jD, jE, jF, jG, jH, jI, jJ, jK, tfCeRuns, f11]
          refine hX _ _ ?_
          clear hX X
          refine ⟨by kernel_rfl, ?_⟩
          rw [hYf]; exact y_fin (y_end (k := k) hms (by omega) [some (List.replicate k (.v (.int .i32 0))), some (List.replicate k (.v (.bool false))), some (lCells ⟨m.nb + 2, m.nb + 0, m.nb + 1⟩ (fun _ => 0) (fun _ => false) k 0 0)] 0 1 (by omega) (by first | rfl | (simp only [push_ext, ext_ext, List.cons_append, List.nil_append, push_nb1, ext_nb, List.length_cons, List.length_nil]; rfl)) rfl rfl rfl) fun z1 z2 z3 => ⟨body, mid, memid, tid, _, (by simp -implicitDefEqProofs only [↓slp, slb, ↓reduceIte, reduceCtorEq, jA, jB, jC, jD, jE, jF, jG, jH, jI, jJ, jK, tfCeRuns, f1]), (by simp -implicitDefEqProofs only [↓slp, slb, ↓reduceIte, reduceCtorEq, jA, jB, jC, jD, jE, jF, jG, jH, jI, jJ, jK, tfCeRuns, f3]), (by simp -implicitDefEqProofs only [↓slp, slb, ↓reduceIte, reduceCtorEq, jA, jB, jC, jD, jE, jF, jG, jH, jI, jJ, jK, tfCeRuns, f10]), (by simp -implicitDefEqProofs only [↓slp, slb, ↓reduceIte, reduceCtorEq, jA, jB, jC, jD, jE, jF, jG, jH, jI, jJ, jK, tfCeRuns, f11]), (by simp -implicitDefEqProofs only [↓slp, slb, ↓reduceIte, reduceCtorEq, jA, jB, jC, jD, jE, jF, jG, jH, jI, jJ, jK, tfCeRuns, f12]), (by simp -implicitDefEqProofs only [↓slp, slb, ↓reduceIte, reduceCtorEq, jA, jB, jC, jD, jE, jF, jG, jH, jI, jJ, jK, tfCeRuns, f1]), hmade, z1, z2, z3⟩
        · refine ⟨_, List.getElem?_toArray.trans (List.getElem?_cons_succ.trans (List.getElem?_cons_succ.trans (List.getElem?_cons_succ.trans List.getElem?_cons_zero))), rfl, ?_⟩
          refine mkStep_make (.bool false) 4 k rfl (by simp -implicitDefEqProofs only [↓slp, slb, ↓reduceIte, reduceCtorEq, jA, jB, jC, jD, jE, jF, jG, jH, jI, jJ, jK, tfCeRuns, f11]) (by simp -implicitDefEqProofs only [↓slp, slb, ↓reduceIte, reduceCtorEq, jA, jB, jC, jD, jE, jF, jG, jH, jI, jJ, jK, tfCeRuns, f11]) (by unfold maxLen; omega) rfl rfl (mkB k (by omega)) ?_
          refine aAny_s [1] (by kernel_rfl) (by simp) ?_
          intro i hi
          simp only [List.mem_cons, List.not_mem_nil, or_false] at hi
          subst hi
          refine ⟨_, List.getElem?_toArray.trans (List.getElem?_cons_succ.trans List.getElem?_cons_zero), rfl, ?_⟩
          refine mkStep_make (.int .i32 0) 21 k rfl (by simp -implicitDefEqProofs only [↓slp, slb, ↓reduceIte, reduceCtorEq, jA, jB, jC, jD, jE, jF, jG, jH, jI, jJ, jK, tfCeRuns, f11]) (by simp -implicitDefEqProofs only [↓slp, slb, ↓reduceIte, reduceCtorEq, jA, jB, jC, jD, jE, jF, jG, jH, jI, jJ, jK, tfCeRuns, f11]) (by unfold maxLen; omega) rfl rfl (mkI k (by omega)) ?_
          refine aAny_s [4] (by kernel_rfl) (by simp) ?_
          intro i hi
          simp only [List.mem_cons, List.not_mem_nil, or_false] at hi
          subst hi
          refine ⟨_, List.getElem?_toArray.trans (List.getElem?_cons_succ.trans (List.getElem?_cons_succ.trans (List.getElem?_cons_succ.trans (List.getElem?_cons_succ.trans List.getElem?_cons_zero)))), rfl, ?_⟩
          refine mkStep_op (fun X hX => ?_) (by rintro _ _ _ ⟨⟩)
          rw [aOp_d]
          simp -implicitDefEqProofs only [↓slp, slb, ↓reduceIte, reduceCtorEq, jA, jB, jC, jD, jE, jF, jG, jH, jI, jJ, jK, tfCeRuns, f11]
          refine hX _ _ ?_
          clear hX X
          refine aAny_s [5] (by kernel_rfl) (by simp) ?_
          intro i hi
          simp only [List.mem_cons, List.not_mem_nil, or_false] at hi
          subst hi
          refine ⟨_, List.getElem?_toArray.trans (List.getElem?_cons_succ.trans (List.getElem?_cons_succ.trans (List.getElem?_cons_succ.trans (List.getElem?_cons_succ.trans (List.getElem?_cons_succ.trans List.getElem?_cons_zero))))), rfl, ?_⟩
          refine mkStep_op (fun X hX => ?_) (by rintro _ _ _ ⟨⟩)
          rw [aOp_d]
          simp -implicitDefEqProofs only [↓slp, slb, ↓reduceIte, reduceCtorEq, jA, jB, jC, jD, jE, jF, jG, jH, jI, jJ, jK, tfCeRuns, f11]
          refine hX _ _ ?_
          clear hX X
          refine aAny_s [6] (by kernel_rfl) (by simp) ?_
          intro i hi
          simp only [List.mem_cons, List.not_mem_nil, or_false] at hi
          subst hi
          refine ⟨_, List.getElem?_toArray.trans (List.getElem?_cons_succ.trans (List.getElem?_cons_succ.trans (List.getElem?_cons_succ.trans (List.getElem?_cons_succ.trans (List.getElem?_cons_succ.trans (List.getElem?_cons_succ.trans List.getElem?_cons_zero)))))), rfl, ?_⟩
          refine mkStep_op (fun X hX => ?_) (by rintro _ _ _ ⟨⟩)
          rw [aOp_d]
          simp -implicitDefEqProofs only [↓slp, slb, ↓reduceIte, reduceCtorEq, jA, jB, jC, jD, jE, jF, jG, jH, jI, jJ, jK, tfCeRuns, f11]
          refine hX _ _ ?_
          clear hX X
          refine ⟨by kernel_rfl, ?_⟩
          rw [hYf]; exact y_fin (y_end (k := k) hms (by omega) [some (List.replicate k (.v (.bool false))), some (List.replicate k (.v (.int .i32 0))), some (lCells ⟨m.nb + 2, m.nb + 1, m.nb + 0⟩ (fun _ => 0) (fun _ => false) k 0 0)] 1 0 (by omega) (by first | rfl | (simp only [push_ext, ext_ext, List.cons_append, List.nil_append, push_nb1, ext_nb, List.length_cons, List.length_nil]; rfl)) rfl rfl rfl) fun z1 z2 z3 => ⟨body, mid, memid, tid, _, (by simp -implicitDefEqProofs only [↓slp, slb, ↓reduceIte, reduceCtorEq, jA, jB, jC, jD, jE, jF, jG, jH, jI, jJ, jK, tfCeRuns, f1]), (by simp -implicitDefEqProofs only [↓slp, slb, ↓reduceIte, reduceCtorEq, jA, jB, jC, jD, jE, jF, jG, jH, jI, jJ, jK, tfCeRuns, f3]), (by simp -implicitDefEqProofs only [↓slp, slb, ↓reduceIte, reduceCtorEq, jA, jB, jC, jD, jE, jF, jG, jH, jI, jJ, jK, tfCeRuns, f10]), (by simp -implicitDefEqProofs only [↓slp, slb, ↓reduceIte, reduceCtorEq, jA, jB, jC, jD, jE, jF, jG, jH, jI, jJ, jK, tfCeRuns, f11]), (by simp -implicitDefEqProofs only [↓slp, slb, ↓reduceIte, reduceCtorEq, jA, jB, jC, jD, jE, jF, jG, jH, jI, jJ, jK, tfCeRuns, f12]), (by simp -implicitDefEqProofs only [↓slp, slb, ↓reduceIte, reduceCtorEq, jA, jB, jC, jD, jE, jF, jG, jH, jI, jJ, jK, tfCeRuns, f1]), hmade, z1, z2, z3⟩
      · refine ⟨_, List.getElem?_toArray.trans (List.getElem?_cons_succ.trans (List.getElem?_cons_succ.trans (List.getElem?_cons_succ.trans List.getElem?_cons_zero))), rfl, ?_⟩
        refine mkStep_make (.bool false) 4 k rfl (by simp -implicitDefEqProofs only [↓slp, slb, ↓reduceIte, reduceCtorEq, jA, jB, jC, jD, jE, jF, jG, jH, jI, jJ, jK, tfCeRuns, f11]) (by simp -implicitDefEqProofs only [↓slp, slb, ↓reduceIte, reduceCtorEq, jA, jB, jC, jD, jE, jF, jG, jH, jI, jJ, jK, tfCeRuns, f11]) (by unfold maxLen; omega) rfl rfl (mkB k (by omega)) ?_
        refine aAny_s [0] (by kernel_rfl) (by simp) ?_
        intro i hi
        simp only [List.mem_cons, List.not_mem_nil, or_false] at hi
        subst hi
        refine ⟨_, List.getElem?_toArray.trans List.getElem?_cons_zero, rfl, ?_⟩
        refine mkStep_op (fun X hX => ?_) (by rintro _ _ _ ⟨⟩)
        rw [aOp_d]
        simp -implicitDefEqProofs only [↓slp, slb, ↓reduceIte, reduceCtorEq, jA, jB, jC, jD, jE, jF, jG, jH, jI, jJ, jK, tfCeRuns, f11]
        refine hX _ _ ?_
        clear hX X
        refine aAny_s [1] (by kernel_rfl) (by simp) ?_
        intro i hi
        simp only [List.mem_cons, List.not_mem_nil, or_false] at hi
        subst hi
        refine ⟨_, List.getElem?_toArray.trans (List.getElem?_cons_succ.trans List.getElem?_cons_zero), rfl, ?_⟩
        refine mkStep_make (.int .i32 0) 21 k rfl (by simp -implicitDefEqProofs only [↓slp, slb, ↓reduceIte, reduceCtorEq, jA, jB, jC, jD, jE, jF, jG, jH, jI, jJ, jK, tfCeRuns, f11]) (by simp -implicitDefEqProofs only [↓slp, slb, ↓reduceIte, reduceCtorEq, jA, jB, jC, jD, jE, jF, jG, jH, jI, jJ, jK, tfCeRuns, f11]) (by unfold maxLen; omega) rfl rfl (mkI k (by omega)) ?_
        refine aAny_s [4] (by kernel_rfl) (by simp) ?_
        intro i hi
        simp only [List.mem_cons, List.not_mem_nil, or_false] at hi
        subst hi
        refine ⟨_, List.getElem?_toArray.trans (List.getElem?_cons_succ.trans (List.getElem?_cons_succ.trans (List.getElem?_cons_succ.trans (List.getElem?_cons_succ.trans List.getElem?_cons_zero)))), rfl, ?_⟩
        refine mkStep_op (fun X hX => ?_) (by rintro _ _ _ ⟨⟩)
        rw [aOp_d]
        simp -implicitDefEqProofs only [↓slp, slb, ↓reduceIte, reduceCtorEq, jA, jB, jC, jD, jE, jF, jG, jH, jI, jJ, jK, tfCeRuns, f11]
        refine hX _ _ ?_
        clear hX X
        refine aAny_s [5] (by kernel_rfl) (by simp) ?_
        intro i hi
        simp only [List.mem_cons, List.not_mem_nil, or_false] at hi
        subst hi
        refine ⟨_, List.getElem?_toArray.trans (List.getElem?_cons_succ.trans (List.getElem?_cons_succ.trans (List.getElem?_cons_succ.trans (List.getElem?_cons_succ.trans (List.getElem?_cons_succ.trans List.getElem?_cons_zero))))), rfl, ?_⟩
        refine mkStep_op (fun X hX => ?_) (by rintro _ _ _ ⟨⟩)
        rw [aOp_d]
        simp -implicitDefEqProofs only [↓slp, slb, ↓reduceIte, reduceCtorEq, jA, jB, jC, jD, jE, jF, jG, jH, jI, jJ, jK, tfCeRuns, f11]
        refine hX _ _ ?_
        clear hX X
        refine aAny_s [6] (by kernel_rfl) (by simp) ?_
        intro i hi
        simp only [List.mem_cons, List.not_mem_nil, or_false] at hi
        subst hi
        refine ⟨_, List.getElem?_toArray.trans (List.getElem?_cons_succ.trans (List.getElem?_cons_succ.trans (List.getElem?_cons_succ.trans (List.getElem?_cons_succ.trans (List.getElem?_cons_succ.trans (List.getElem?_cons_succ.trans List.getElem?_cons_zero)))))), rfl, ?_⟩
        refine mkStep_op (fun X hX => ?_) (by rintro _ _ _ ⟨⟩)
        rw [aOp_d]
        simp -implicitDefEqProofs only [↓slp, slb, ↓reduceIte, reduceCtorEq, jA, jB, jC, jD, jE, jF, jG, jH, jI, jJ, jK, tfCeRuns, f11]
        refine hX _ _ ?_
        clear hX X
        refine ⟨by kernel_rfl, ?_⟩
        rw [hYf]; exact y_fin (y_end (k := k) hms (by omega) [some (List.replicate k (.v (.bool false))), some (List.replicate k (.v (.int .i32 0))), some (lCells ⟨m.nb + 2, m.nb + 1, m.nb + 0⟩ (fun _ => 0) (fun _ => false) k 0 0)] 1 0 (by omega) (by first | rfl | (simp only [push_ext, ext_ext, List.cons_append, List.nil_append, push_nb1, ext_nb, List.length_cons, List.length_nil]; rfl)) rfl rfl rfl) fun z1 z2 z3 => ⟨body, mid, memid, tid, _, (by simp -implicitDefEqProofs only [↓slp, slb, ↓reduceIte, reduceCtorEq, jA, jB, jC, jD, jE, jF, jG, jH, jI, jJ, jK, tfCeRuns, f1]), (by simp -implicitDefEqProofs only [↓slp, slb, ↓reduceIte, reduceCtorEq, jA, jB, jC, jD, jE, jF, jG, jH, jI, jJ, jK, tfCeRuns, f3]), (by simp -implicitDefEqProofs only [↓slp, slb, ↓reduceIte, reduceCtorEq, jA, jB, jC, jD, jE, jF, jG, jH, jI, jJ, jK, tfCeRuns, f10]), (by simp -implicitDefEqProofs only [↓slp, slb, ↓reduceIte, reduceCtorEq, jA, jB, jC, jD, jE, jF, jG, jH, jI, jJ, jK, tfCeRuns, f11]), (by simp -implicitDefEqProofs only [↓slp, slb, ↓reduceIte, reduceCtorEq, jA, jB, jC, jD, jE, jF, jG, jH, jI, jJ, jK, tfCeRuns, f12]), (by simp -implicitDefEqProofs only [↓slp, slb, ↓reduceIte, reduceCtorEq, jA, jB, jC, jD, jE, jF, jG, jH, jI, jJ, jK, tfCeRuns, f1]), hmade, z1, z2, z3⟩
  · intro f m hy
    rw [hYf] at hy
    obtain ⟨body, mid, memid, tid, p, f1, f3, f10, f11, f12, f14, hmade, hms, hlr, hap⟩ := hy
    have hp := hap.ok
    obtain ⟨fu, hF, hF4⟩ := tmod_nat hu.1 400 (by omega)
    have hF' : u.tmod 400 = (fu : Int) := hF
    have wu : IntKind.i64.wrap u = u := wrap64 (by omega)
    (repeat (first | refine aSeq fun X hX => ?_ | refine aBlk ?_ | refine aSkip ?_ | (first | refine aExit ?_ | refine aRet ?_); try simp only [slx, ↓reduceIte, Nat.reduceEqDiff, reduceCtorEq] | (first | refine aReg ?_ | refine aDrE ?_); simp -implicitDefEqProofs only [forall_eq, ↓slp, slb, ↓reduceIte, reduceCtorEq, jA, jB, jC, jD, jE, jF, jG, jH, jI, jJ, jK, tfCeRuns, f1, f3, f10, f11, f12, f14] | refine hX _ _ ?_; clear hX X | clear hX X; refine hX _ _ ?_; clear hX X | clear hX X; clear hX X; refine hX _ _ ?_; clear hX X | intro hlen; unfold maxLen at hlen | apply And.intro; focus (first | omega | assumption | (repeat' apply And.intro) <;> first | omega | assumption)))
    obtain ⟨I, hI⟩ : ∃ I : F → M → Prop, ∀ f m', I f m' = (∃ (q how : Nat) (vs : Nat → Int) (bs : Nat → Bool) (s : CM), q ≤ xs.length ∧ f 1 = .sl .no (xs.map pJ) ∧ f 3 = .v (.int .u16 u) ∧ f 10 = .sl .no (body.map CS.pv) ∧ f 11 = .v (.int .i64 k) ∧ f 12 = .bp mid 0 ∧ f 14 = .bp p.did 0 ∧ f 15 = .v (.int .i64 q) ∧ s.mem.length = k ∧ LR p vs bs s how m' ∧ MS mid memid tid progL (progF body) s.mem s.tch m') := ⟨_, fun _ _ => rfl⟩
    refine aLoop I (fun f m => xs.length - numOf (f 15)) ?_ ?_
    · rw [hI]; exact ⟨0, 0, _, _, _, by omega, f1, f3, f10, f11, f12, f14, rfl, by simp, hlr, hms⟩
    clear hlr hms f1 f3 f10 f11 f12 f14
    intro f m1 hrel
    rw [hI] at hrel
    obtain ⟨q, how, vs, bs, s, hq, f1, f3, f10, f11, f12, f14, f15, hmk, hlr, hms⟩ := hrel
    cases d1 : decide ((q : Int) < (xs.length : Int)) with
    | false =>
      (repeat (first | refine aSeq fun X hX => ?_ | refine aBlk ?_ | refine aSkip ?_ | (first | refine aExit ?_ | refine aRet ?_); try simp only [slx, ↓reduceIte, Nat.reduceEqDiff, reduceCtorEq] | (first | refine aReg ?_ | refine aDrE ?_); simp -implicitDefEqProofs only [forall_eq, ↓slp, slb, ↓reduceIte, reduceCtorEq, jA, jB, jC, jD, jE, jF, jG, jH, jI, jJ, jK, tfCeRuns, f1, f15, d1] | refine hX _ _ ?_; clear hX X | clear hX X; refine hX _ _ ?_; clear hX X | clear hX X; clear hX X; refine hX _ _ ?_; clear hX X | intro hlen; unfold maxLen at hlen | apply And.intro; focus (first | omega | assumption | (repeat' apply And.intro) <;> first | omega | assumption)))
      refine aIf ?_; simp -implicitDefEqProofs only [↓slp, slb, ↓reduceIte, reduceCtorEq, jA, jB, jC, jD, jE, jF, jG, jH, jI, jJ, jK]
      (repeat (first | refine aSeq fun X hX => ?_ | refine aBlk ?_ | refine aSkip ?_ | (first | refine aExit ?_ | refine aRet ?_); try simp only [slx, ↓reduceIte, Nat.reduceEqDiff, reduceCtorEq] | (first | refine aReg ?_ | refine aDrE ?_); simp -implicitDefEqProofs only [forall_eq, ↓slp, slb, ↓reduceIte, reduceCtorEq, jA, jB, jC, jD, jE, jF, jG, jH, jI, jJ, jK, tfCeRuns] | refine hX _ _ ?_; clear hX X | clear hX X; refine hX _ _ ?_; clear hX X | clear hX X; clear hX X; refine hX _ _ ?_; clear hX X | intro hlen; unfold maxLen at hlen | apply And.intro; focus (first | omega | assumption | (repeat' apply And.intro) <;> first | omega | assumption)))
      simp only [aPost, Try.results6, aRes_n, aRes_t, aRes_c, pack_one, pack_two]
      exact leave_M0 rfl rfl
    | true =>
    have hlt : q < xs.length := by simpa using d1
    have hqi : IntKind.i64.wrap ((q : Int) + 1) = ((q + 1 : Nat) : Int) := by rw [wrap64 (by omega)]; omega
    have hme : numOf (f 15) = q := by rw [f15]; exact Int.toNat_natCast q
    have gx : (xs.map pJ).getD q .junk = pJ xs[q] := by simp [hlt]
    have hxq := hx32 _ (List.getElem_mem hlt)
    generalize xs[q] = x at *
    have gd := hlr.gd
    have gd10 : ∀ c, (m1.upd p.did c).get p.did = some c := fun c => get_upd_eq gd
    have hlr2 := hlr.box hp (vs' := vs0 x) (bs' := bs0) (left' := fu) (how' := 255) (by omega)
    have hc2 : Chg p.ids m1 (m1.upd p.did (lCells p (vs0 x) bs0 s.mem.length fu 255)) := chg_box _
    (repeat (first | refine aSeq fun X hX => ?_ | refine aBlk ?_ | refine aSkip ?_ | (first | refine aExit ?_ | refine aRet ?_); try simp only [slx, ↓reduceIte, Nat.reduceEqDiff, reduceCtorEq] | (first | refine aReg ?_ | refine aDrE ?_); simp -implicitDefEqProofs only [forall_eq, ↓slp, slb, ↓reduceIte, reduceCtorEq, jA, jB, jC, jD, jE, jF, jG, jH, jI, jJ, jK, tfCeRuns, f1, f15, d1] | refine hX _ _ ?_; clear hX X | clear hX X; refine hX _ _ ?_; clear hX X | clear hX X; clear hX X; refine hX _ _ ?_; clear hX X | intro hlen; unfold maxLen at hlen | apply And.intro; focus (first | omega | assumption | (repeat' apply And.intro) <;> first | omega | assumption)))
    refine aIf ?_; simp -implicitDefEqProofs only [↓slp, slb, ↓reduceIte, reduceCtorEq, jA, jB, jC, jD, jE, jF, jG, jH, jI, jJ, jK]
    (repeat (first | refine aSeq fun X hX => ?_ | refine aBlk ?_ | refine aSkip ?_ | (first | refine aExit ?_ | refine aRet ?_); try simp only [slx, ↓reduceIte, Nat.reduceEqDiff, reduceCtorEq] | (first | refine aReg ?_ | refine aDrE ?_); simp -implicitDefEqProofs only [forall_eq, ↓slp, slb, ↓reduceIte, reduceCtorEq, jA, jB, jC, jD, jE, jF, jG, jH, jI, jJ, jK, tfCeRuns, f1, f3, f10, f14, f15, wu, hF', gx, gd, gd10, upd_upd] | refine hX _ _ ?_; clear hX X | clear hX X; refine hX _ _ ?_; clear hX X | clear hX X; clear hX X; refine hX _ _ ?_; clear hX X | intro hlen; unfold maxLen at hlen | apply And.intro; focus (first | omega | assumption | (repeat' apply And.intro) <;> first | omega | assumption)))
    refine callM (dos_all body body hmade p (vs0 x) bs0 ⟨s.mem, s.tch, fu⟩ [(sVa, x)] _ hp hlr2 (envR0 x) (by intro y hy; simp at hy; subst hy; exact hxq)) ?_
    rintro v m3 ⟨hc3, hret⟩
    have hc13 := hc2.trans hc3
    clear hc2 hc3 hlr2 gd10 gd hlr
    have hms3 := hms.chg hc13 hap.a1 hap.a2 hap.a3
    clear hc13 hms hlen
    suffices hs : ∀ g : F, g 1 = .sl .no (xs.map pJ) → g 3 = .v (.int .u16 u) → g 10 = .sl .no (body.map CS.pv) → g 11 = .v (.int .i64 k) → g 12 = .bp mid 0 → g 14 = .bp p.did 0 → g 15 = .v (.int .i64 q) → g 16 = .v (.int .i64 fu) → X g m3 by
      exact hs _ (by simp -implicitDefEqProofs only [↓slp, slb, ↓reduceIte, reduceCtorEq, jA, jB, jC, jD, jE, jF, jG, jH, jI, jJ, jK, tfCeRuns, f1]) (by simp -implicitDefEqProofs only [↓slp, slb, ↓reduceIte, reduceCtorEq, jA, jB, jC, jD, jE, jF, jG, jH, jI, jJ, jK, tfCeRuns, f3]) (by simp -implicitDefEqProofs only [↓slp, slb, ↓reduceIte, reduceCtorEq, jA, jB, jC, jD, jE, jF, jG, jH, jI, jJ, jK, tfCeRuns, f10]) (by simp -implicitDefEqProofs only [↓slp, slb, ↓reduceIte, reduceCtorEq, jA, jB, jC, jD, jE, jF, jG, jH, jI, jJ, jK, tfCeRuns, f11]) (by simp -implicitDefEqProofs only [↓slp, slb, ↓reduceIte, reduceCtorEq, jA, jB, jC, jD, jE, jF, jG, jH, jI, jJ, jK, tfCeRuns, f12]) (by simp -implicitDefEqProofs only [↓slp, slb, ↓reduceIte, reduceCtorEq, jA, jB, jC, jD, jE, jF, jG, jH, jI, jJ, jK, tfCeRuns, f14]) (by simp -implicitDefEqProofs only [↓slp, slb, ↓reduceIte, reduceCtorEq, jA, jB, jC, jD, jE, jF, jG, jH, jI, jJ, jK, tfCeRuns, f15]) (by simp -implicitDefEqProofs only [↓slp, slb, ↓reduceIte, reduceCtorEq, jA, jB, jC, jD, jE, jF, jG, jH, jI, jJ, jK, tfCeRuns])
    clear f1 f3 f10 f11 f12 f14 f15
    intro g f1 f3 f10 f11 f12 f14 f15 f16
    refine hX _ _ ?_
    clear hX X
    refine aSeq2 (fun X hX => ?_)
    have hz : maxZ (fu : Int) = fu := by unfold maxZ; rw [if_neg (by omega)]
    have hrr := run_r body x fu s.mem s.tch
    have join : ∀ (g : F) (m4 : M) (how : Nat) (vs : Nat → Int) (bs : Nat → Bool) (s4 : CM) (r : CRn (List Int)), runC progL (progF body) sF 0 [x] (fu : Int) s.mem s.tch = r → ((r = .ok [vs 1] s4 ∧ how = 0) ∨ (r = .bad how s4 ∧ 0 < how ∧ how < 255)) → LR p vs bs s4 how m4 → MS mid memid tid progL (progF body) s.mem s.tch m4 →
        g 1 = .sl .no (xs.map pJ) → g 3 = .v (.int .u16 u) → g 10 = .sl .no (body.map CS.pv) → g 11 = .v (.int .i64 k) → g 12 = .bp mid 0 → g 14 = .bp p.did 0 → g 15 = .v (.int .i64 q) → g 16 = .v (.int .i64 fu) → X g m4 := by
      clear hret hms3 f1 f3 f10 f11 f12 f14 f15 f16 hrr
      intro g m4 how vs bs s4 r hr hw hlr hms f1 f3 f10 f11 f12 f14 f15 f16
      refine hX _ _ ?_
      clear hX X
      have hr' := runM_any hms (by decide) (by intro s hs; simp only [progL, List.mem_cons, List.not_mem_nil, or_false] at hs; rcases hs with rfl | rfl <;> decide) (goodR hmade) (by show 2 ≤ _; omega) .full sF 0 [x] (fu : Int) (by omega) (by intro y hy; simp at hy; subst hy; exact hxq) r hr
      rw [hz] at hr'
      have h62 := hlr.l62
      have hsub : IntKind.i64.wrap ((fu : Int) - s4.left) = (fu : Int) - s4.left := wrap64 (by omega)
      refine aSeq2 (fun X hX => ?_)
      have last : ∀ (g : F) (m5 : M), LR p vs bs s4 how m5 → MS mid memid tid progL (progF body) s4.mem s4.tch m5 → Chg [memid, tid] m4 m5 →
          g 1 = .sl .no (xs.map pJ) → g 3 = .v (.int .u16 u) → g 10 = .sl .no (body.map CS.pv) → g 11 = .v (.int .i64 k) → g 12 = .bp mid 0 → g 14 = .bp p.did 0 → g 15 = .v (.int .i64 q) → X g m5 := by
        clear hr hr' hw hlr f1 f3 f10 f11 f12 f14 f15 f16
        intro g m5 hlr hms5 hc5 f1 f3 f10 f11 f12 f14 f15
        have hlen4 : s4.mem.length = k := by
          have h1 := hms5.gmid
          rw [hc5.get mid (by have := hms.ne; simp; omega), hms.gmid] at h1
          simp at h1
          omega
        have htl4 : s4.tch.length = k := hlr.tlen.trans hlen4
        refine hX _ _ ?_
        clear hX X
        (repeat (first | refine aSeq fun X hX => ?_ | refine aBlk ?_ | refine aSkip ?_ | (first | refine aExit ?_ | refine aRet ?_); try simp only [slx, ↓reduceIte, Nat.reduceEqDiff, reduceCtorEq] | (first | refine aReg ?_ | refine aDrE ?_); simp -implicitDefEqProofs only [forall_eq, ↓slp, slb, ↓reduceIte, reduceCtorEq, jA, jB, jC, jD, jE, jF, jG, jH, jI, jJ, jK, tfCeRuns, f12] | refine hX _ _ ?_; clear hX X | clear hX X; refine hX _ _ ?_; clear hX X | clear hX X; clear hX X; refine hX _ _ ?_; clear hX X | intro hlen; unfold maxLen at hlen | apply And.intro; focus (first | omega | assumption | (repeat' apply And.intro) <;> first | omega | assumption)))
        refine callE (cells_any hms5) ?_
        simp -implicitDefEqProofs only [↓slp, slb, ↓reduceIte, reduceCtorEq, jA, jB, jC, jD, jE, jF, jG, jH, jI, jJ, jK, tfCeRuns, f12]
        (repeat (first | refine aSeq fun X hX => ?_ | refine aBlk ?_ | refine aSkip ?_ | (first | refine aExit ?_ | refine aRet ?_); try simp only [slx, ↓reduceIte, Nat.reduceEqDiff, reduceCtorEq] | (first | refine aReg ?_ | refine aDrE ?_); simp -implicitDefEqProofs only [forall_eq, ↓slp, slb, ↓reduceIte, reduceCtorEq, jA, jB, jC, jD, jE, jF, jG, jH, jI, jJ, jK, tfCeRuns, f12] | refine hX _ _ ?_; clear hX X | clear hX X; refine hX _ _ ?_; clear hX X | clear hX X; clear hX X; refine hX _ _ ?_; clear hX X | intro hlen; unfold maxLen at hlen | apply And.intro; focus (first | omega | assumption | (repeat' apply And.intro) <;> first | omega | assumption)))
        refine callE (touched_any hms5) ?_
        simp -implicitDefEqProofs only [↓slp, slb, ↓reduceIte, reduceCtorEq, jA, jB, jC, jD, jE, jF, jG, jH, jI, jJ, jK, tfCeRuns, f12]
        (repeat (first | refine aSeq fun X hX => ?_ | refine aBlk ?_ | refine aSkip ?_ | (first | refine aExit ?_ | refine aRet ?_); try simp only [slx, ↓reduceIte, Nat.reduceEqDiff, reduceCtorEq] | (first | refine aReg ?_ | refine aDrE ?_); simp -implicitDefEqProofs only [forall_eq, ↓slp, slb, ↓reduceIte, reduceCtorEq, jA, jB, jC, jD, jE, jF, jG, jH, jI, jJ, jK, tfCeRuns, f11, hlen4, htl4] | refine hX _ _ ?_; clear hX X | clear hX X; refine hX _ _ ?_; clear hX X | clear hX X; clear hX X; refine hX _ _ ?_; clear hX X | intro hlen; unfold maxLen at hlen | apply And.intro; focus (first | omega | assumption | (repeat' apply And.intro) <;> first | omega | assumption)))
        refine aIf ?_; simp -implicitDefEqProofs only [↓slp, slb, ↓reduceIte, reduceCtorEq, jA, jB, jC, jD, jE, jF, jG, jH, jI, jJ, jK]
        (repeat (first | refine aSeq fun X hX => ?_ | refine aBlk ?_ | refine aSkip ?_ | (first | refine aExit ?_ | refine aRet ?_); try simp only [slx, ↓reduceIte, Nat.reduceEqDiff, reduceCtorEq] | (first | refine aReg ?_ | refine aDrE ?_); simp -implicitDefEqProofs only [forall_eq, ↓slp, slb, ↓reduceIte, reduceCtorEq, jA, jB, jC, jD, jE, jF, jG, jH, jI, jJ, jK, tfCeRuns] | refine hX _ _ ?_; clear hX X | clear hX X; refine hX _ _ ?_; clear hX X | clear hX X; clear hX X; refine hX _ _ ?_; clear hX X | intro hlen; unfold maxLen at hlen | apply And.intro; focus (first | omega | assumption | (repeat' apply And.intro) <;> first | omega | assumption)))
        obtain ⟨J, hJ⟩ : ∃ J : F → M → Prop, ∀ f m', J f m' = (∃ t : Nat, t ≤ k ∧ f 1 = .sl .no (xs.map pJ) ∧ f 3 = .v (.int .u16 u) ∧ f 10 = .sl .no (body.map CS.pv) ∧ f 11 = .v (.int .i64 k) ∧ f 12 = .bp mid 0 ∧ f 14 = .bp p.did 0 ∧ f 15 = .v (.int .i64 q) ∧ f 20 = .sl .no (memB s4.mem) ∧ f 21 = .sl .no (tchB s4.tch) ∧ f 22 = .v (.int .i64 t) ∧ m' = m5) := ⟨_, fun _ _ => rfl⟩
        refine aLoop J (fun f m => k - numOf (f 22)) ?_ ?_
        · rw [hJ]; exact ⟨0, by omega, (by simp -implicitDefEqProofs only [↓slp, slb, ↓reduceIte, reduceCtorEq, jA, jB, jC, jD, jE, jF, jG, jH, jI, jJ, jK, tfCeRuns, f1]), (by simp -implicitDefEqProofs only [↓slp, slb, ↓reduceIte, reduceCtorEq, jA, jB, jC, jD, jE, jF, jG, jH, jI, jJ, jK, tfCeRuns, f3]), (by simp -implicitDefEqProofs only [↓slp, slb, ↓reduceIte, reduceCtorEq, jA, jB, jC, jD, jE, jF, jG, jH, jI, jJ, jK, tfCeRuns, f10]), (by simp -implicitDefEqProofs only [↓slp, slb, ↓reduceIte, reduceCtorEq, jA, jB, jC, jD, jE, jF, jG, jH, jI, jJ, jK, tfCeRuns, f11]), (by simp -implicitDefEqProofs only [↓slp, slb, ↓reduceIte, reduceCtorEq, jA, jB, jC, jD, jE, jF, jG, jH, jI, jJ, jK, tfCeRuns, f12]), (by simp -implicitDefEqProofs only [↓slp, slb, ↓reduceIte, reduceCtorEq, jA, jB, jC, jD, jE, jF, jG, jH, jI, jJ, jK, tfCeRuns, f14]), (by simp -implicitDefEqProofs only [↓slp, slb, ↓reduceIte, reduceCtorEq, jA, jB, jC, jD, jE, jF, jG, jH, jI, jJ, jK, tfCeRuns, f15]), rfl, rfl, rfl, rfl⟩
        clear f1 f3 f10 f11 f12 f14 f15
        intro f m6 hrel
        rw [hJ] at hrel
        obtain ⟨t, ht, f1, f3, f10, f11, f12, f14, f15, f20, f21, f22, rfl⟩ := hrel
        cases d2 : decide ((t : Int) < (k : Int)) with
        | false =>
          (repeat (first | refine aSeq fun X hX => ?_ | refine aBlk ?_ | refine aSkip ?_ | (first | refine aExit ?_ | refine aRet ?_); try simp only [slx, ↓reduceIte, Nat.reduceEqDiff, reduceCtorEq] | (first | refine aReg ?_ | refine aDrE ?_); simp -implicitDefEqProofs only [forall_eq, ↓slp, slb, ↓reduceIte, reduceCtorEq, jA, jB, jC, jD, jE, jF, jG, jH, jI, jJ, jK, tfCeRuns, f11, f22, d2] | refine hX _ _ ?_; clear hX X | clear hX X; refine hX _ _ ?_; clear hX X | clear hX X; clear hX X; refine hX _ _ ?_; clear hX X | intro hlen; unfold maxLen at hlen | apply And.intro; focus (first | omega | assumption | (repeat' apply And.intro) <;> first | omega | assumption)))
          refine aIf ?_; simp -implicitDefEqProofs only [↓slp, slb, ↓reduceIte, reduceCtorEq, jA, jB, jC, jD, jE, jF, jG, jH, jI, jJ, jK]
          (repeat (first | refine aSeq fun X hX => ?_ | refine aBlk ?_ | refine aSkip ?_ | (first | refine aExit ?_ | refine aRet ?_); try simp only [slx, ↓reduceIte, Nat.reduceEqDiff, reduceCtorEq] | (first | refine aReg ?_ | refine aDrE ?_); simp -implicitDefEqProofs only [forall_eq, ↓slp, slb, ↓reduceIte, reduceCtorEq, jA, jB, jC, jD, jE, jF, jG, jH, jI, jJ, jK, tfCeRuns, f15, hqi] | refine hX _ _ ?_; clear hX X | clear hX X; refine hX _ _ ?_; clear hX X | clear hX X; clear hX X; refine hX _ _ ?_; clear hX X | intro hlen; unfold maxLen at hlen | apply And.intro; focus (first | omega | assumption | (repeat' apply And.intro) <;> first | omega | assumption)))
          rw [hI]
          refine ⟨⟨q + 1, how, vs, bs, s4, hlt, f1, f3, f10, f11, f12, f14, rfl, hlen4, hlr, hms5⟩, ?_⟩
          first | omega | (rw [hme]; simp only [↓slp, slb, ↓reduceIte, reduceCtorEq, jA, jB, jC, jD, jE, jF, jG, jH, jI, jJ, jK]; omega) | (rw [hme]; omega) | (show xs.length - (((q + 1 : Nat) : Int)).toNat < _; omega)
        | true =>
          have ht2 : t < k := by simpa using d2
          have hti : IntKind.i64.wrap ((t : Int) + 1) = ((t + 1 : Nat) : Int) := by rw [wrap64 (by omega)]; omega
          have hmt : numOf (f 22) = t := by rw [f22]; exact Int.toNat_natCast t
          have gd := hlr.gd
          have gm := hlr.gm
          have gt := hlr.gt
          have gM : (memB s4.mem).getD t .junk = pJ (s4.mem[t]'(by omega)) := by simp [show t < s4.mem.length by omega]
          have gT : (tchB s4.tch).getD t .junk = .v (.bool (s4.tch[t]'(by omega))) := by simp [show t < s4.tch.length by omega]
          generalize s4.mem[t]'(by omega) = y at *
          generalize s4.tch[t]'(by omega) = z at *
          have b1 : (y == y) = true := by simp
          have lm : (memB s4.mem).length = k := by simp [hlen4]
          have lt : (tchB s4.tch).length = k := by simp [htl4]
          have e0 : 0 + t * 1 = t := by omega
          (repeat (first | refine aSeq fun X hX => ?_ | refine aBlk ?_ | refine aSkip ?_ | (first | refine aExit ?_ | refine aRet ?_); try simp only [slx, ↓reduceIte, Nat.reduceEqDiff, reduceCtorEq] | (first | refine aReg ?_ | refine aDrE ?_); simp -implicitDefEqProofs only [forall_eq, ↓slp, slb, ↓reduceIte, reduceCtorEq, jA, jB, jC, jD, jE, jF, jG, jH, jI, jJ, jK, tfCeRuns, f11, f22, d2] | refine hX _ _ ?_; clear hX X | clear hX X; refine hX _ _ ?_; clear hX X | clear hX X; clear hX X; refine hX _ _ ?_; clear hX X | intro hlen; unfold maxLen at hlen | apply And.intro; focus (first | omega | assumption | (repeat' apply And.intro) <;> first | omega | assumption)))
          refine aIf ?_; simp -implicitDefEqProofs only [↓slp, slb, ↓reduceIte, reduceCtorEq, jA, jB, jC, jD, jE, jF, jG, jH, jI, jJ, jK]
          cases z
          all_goals
            (repeat (first | refine aSeq fun X hX => ?_ | refine aBlk ?_ | refine aSkip ?_ | (first | refine aExit ?_ | refine aRet ?_); try simp only [slx, ↓reduceIte, Nat.reduceEqDiff, reduceCtorEq] | (first | refine aReg ?_ | refine aDrE ?_); simp -implicitDefEqProofs only [forall_eq, ↓slp, slb, ↓reduceIte, reduceCtorEq, jA, jB, jC, jD, jE, jF, jG, jH, jI, jJ, jK, tfCeRuns] | refine hX _ _ ?_; clear hX X | clear hX X; refine hX _ _ ?_; clear hX X | clear hX X; clear hX X; refine hX _ _ ?_; clear hX X | intro hlen; unfold maxLen at hlen | apply And.intro; focus (first | omega | assumption | (repeat' apply And.intro) <;> first | omega | assumption)))
            refine aDrw (fun m2 => m2 = _) (by kernel_rfl) rfl ?_
            simp -implicitDefEqProofs only [↓slp, slb, ↓reduceIte, reduceCtorEq, jA, jB, jC, jD, jE, jF, jG, jH, jI, jJ, jK, tfCeRuns, f14, f20, f21, f22, gd, gm, gt, hlen4, gM, gT, b1, lm, lt, e0]
            refine ⟨ht2, ht2, ht2, ht2, ht2, ht2, ?_⟩
            refine hX _ _ ?_
            clear hX X
            refine aIf ?_; simp -implicitDefEqProofs only [↓slp, slb, ↓reduceIte, reduceCtorEq, jA, jB, jC, jD, jE, jF, jG, jH, jI, jJ, jK]
            (repeat (first | refine aSeq fun X hX => ?_ | refine aBlk ?_ | refine aSkip ?_ | (first | refine aExit ?_ | refine aRet ?_); try simp only [slx, ↓reduceIte, Nat.reduceEqDiff, reduceCtorEq] | (first | refine aReg ?_ | refine aDrE ?_); simp -implicitDefEqProofs only [forall_eq, ↓slp, slb, ↓reduceIte, reduceCtorEq, jA, jB, jC, jD, jE, jF, jG, jH, jI, jJ, jK, tfCeRuns, f22, hti] | refine hX _ _ ?_; clear hX X | clear hX X; refine hX _ _ ?_; clear hX X | clear hX X; clear hX X; refine hX _ _ ?_; clear hX X | intro hlen; unfold maxLen at hlen | apply And.intro; focus (first | omega | assumption | (repeat' apply And.intro) <;> first | omega | assumption)))
            rw [hJ]
            exact ⟨⟨t + 1, ht2, f1, f3, f10, f11, f12, f14, f15, f20, f21, rfl, rfl⟩, by first | omega | (simp only [↓slp, slb, ↓reduceIte, reduceCtorEq, jA, jB, jC, jD, jE, jF, jG, jH, jI, jJ, jK, f22]; omega) | (show k - (((t + 1 : Nat) : Int)).toNat < _; omega)⟩
      (repeat (first | refine aSeq fun X hX => ?_ | refine aBlk ?_ | refine aSkip ?_ | (first | refine aExit ?_ | refine aRet ?_); try simp only [slx, ↓reduceIte, Nat.reduceEqDiff, reduceCtorEq] | (first | refine aReg ?_ | refine aDrE ?_); simp -implicitDefEqProofs only [forall_eq, ↓slp, slb, ↓reduceIte, reduceCtorEq, jA, jB, jC, jD, jE, jF, jG, jH, jI, jJ, jK, tfCeRuns, f1, f3, f10, f11, f12, f14, f15, f16, gx] | refine hX _ _ ?_; clear hX X | clear hX X; refine hX _ _ ?_; clear hX X | clear hX X; clear hX X; refine hX _ _ ?_; clear hX X | intro hlen; unfold maxLen at hlen | apply And.intro; focus (first | omega | assumption | (repeat' apply And.intro) <;> first | omega | assumption)))
      refine callM hr' ?_
      rintro v m5 ⟨rfl, hms5, hc5⟩
      obtain ⟨l1, l2, l3⟩ := hap.l1
      have hlr5 := hlr.chg hc5 l1 l2 l3
      have gd5 := hlr5.gd
      rcases hw with ⟨rfl, rfl⟩ | ⟨rfl, hw0, hw255⟩
      · dsimp only [CRn.cm] at hms5
        have e0 : ((0 : Nat) : Int) = 0 := rfl
        have e1 : ((1 : Nat) : Int) = 1 := rfl
        have b1 : (((fu : Int) - s4.left) == ((fu : Int) - s4.left)) = true := by simp
        have b2 : (vs 1 == vs 1) = true := by simp
        simp -implicitDefEqProofs only [↓slp, slb, ↓reduceIte, reduceCtorEq, jA, jB, jC, jD, jE, jF, jG, jH, jI, jJ, jK, tfCeRuns, runV, hz]
        (repeat (first | refine aSeq fun X hX => ?_ | refine aBlk ?_ | refine aSkip ?_ | (first | refine aExit ?_ | refine aRet ?_); try simp only [slx, ↓reduceIte, Nat.reduceEqDiff, reduceCtorEq] | (first | refine aReg ?_ | refine aDrE ?_); simp -implicitDefEqProofs only [forall_eq, ↓slp, slb, ↓reduceIte, reduceCtorEq, jA, jB, jC, jD, jE, jF, jG, jH, jI, jJ, jK, tfCeRuns] | refine hX _ _ ?_; clear hX X | clear hX X; refine hX _ _ ?_; clear hX X | clear hX X; clear hX X; refine hX _ _ ?_; clear hX X | intro hlen; unfold maxLen at hlen | apply And.intro; focus (first | omega | assumption | (repeat' apply And.intro) <;> first | omega | assumption)))
        refine aDrw (fun m2 => m2 = _) (by kernel_rfl) rfl ?_
        simp -implicitDefEqProofs only [↓slp, slb, ↓reduceIte, reduceCtorEq, jA, jB, jC, jD, jE, jF, jG, jH, jI, jJ, jK, tfCeRuns, f1, f3, f10, f11, f12, f14, f15, f16, gd5, hsub, e0, e1, b1, b2, Int.reduceBEq]
        refine hX _ _ ?_
        clear hX X
        refine aIf ?_; simp -implicitDefEqProofs only [↓slp, slb, ↓reduceIte, reduceCtorEq, jA, jB, jC, jD, jE, jF, jG, jH, jI, jJ, jK]
        (repeat (first | refine aSeq fun X hX => ?_ | refine aBlk ?_ | refine aSkip ?_ | (first | refine aExit ?_ | refine aRet ?_); try simp only [slx, ↓reduceIte, Nat.reduceEqDiff, reduceCtorEq] | (refine hX _ _ ?_; clear hX X) | (clear hX X; refine hX _ _ ?_; clear hX X)))
        exact last _ m5 hlr5 hms5 hc5 (by simp -implicitDefEqProofs only [↓slp, slb, ↓reduceIte, reduceCtorEq, jA, jB, jC, jD, jE, jF, jG, jH, jI, jJ, jK, tfCeRuns, f1]) (by simp -implicitDefEqProofs only [↓slp, slb, ↓reduceIte, reduceCtorEq, jA, jB, jC, jD, jE, jF, jG, jH, jI, jJ, jK, tfCeRuns, f3]) (by simp -implicitDefEqProofs only [↓slp, slb, ↓reduceIte, reduceCtorEq, jA, jB, jC, jD, jE, jF, jG, jH, jI, jJ, jK, tfCeRuns, f10]) (by simp -implicitDefEqProofs only [↓slp, slb, ↓reduceIte, reduceCtorEq, jA, jB, jC, jD, jE, jF, jG, jH, jI, jJ, jK, tfCeRuns, f11]) (by simp -implicitDefEqProofs only [↓slp, slb, ↓reduceIte, reduceCtorEq, jA, jB, jC, jD, jE, jF, jG, jH, jI, jJ, jK, tfCeRuns, f12]) (by simp -implicitDefEqProofs only [↓slp, slb, ↓reduceIte, reduceCtorEq, jA, jB, jC, jD, jE, jF, jG, jH, jI, jJ, jK, tfCeRuns, f14]) (by simp -implicitDefEqProofs only [↓slp, slb, ↓reduceIte, reduceCtorEq, jA, jB, jC, jD, jE, jF, jG, jH, jI, jJ, jK, tfCeRuns, f15])
      · dsimp only [CRn.cm] at hms5
        have b1 : (((fu : Int) - s4.left) == ((fu : Int) - s4.left)) = true := by simp
        have b2 : ((how : Int) == how) = true := by simp
        have ch : ((how : Int) == 0) = false := by simp; omega
        have e0 : ((0 : Nat) : Int) = 0 := rfl
        simp -implicitDefEqProofs only [↓slp, slb, ↓reduceIte, reduceCtorEq, jA, jB, jC, jD, jE, jF, jG, jH, jI, jJ, jK, tfCeRuns, runV, hz]
        (repeat (first | refine aSeq fun X hX => ?_ | refine aBlk ?_ | refine aSkip ?_ | (first | refine aExit ?_ | refine aRet ?_); try simp only [slx, ↓reduceIte, Nat.reduceEqDiff, reduceCtorEq] | (first | refine aReg ?_ | refine aDrE ?_); simp -implicitDefEqProofs only [forall_eq, ↓slp, slb, ↓reduceIte, reduceCtorEq, jA, jB, jC, jD, jE, jF, jG, jH, jI, jJ, jK, tfCeRuns] | refine hX _ _ ?_; clear hX X | clear hX X; refine hX _ _ ?_; clear hX X | clear hX X; clear hX X; refine hX _ _ ?_; clear hX X | intro hlen; unfold maxLen at hlen | apply And.intro; focus (first | omega | assumption | (repeat' apply And.intro) <;> first | omega | assumption)))
        refine aDrw (fun m2 => m2 = _) (by kernel_rfl) rfl ?_
        simp -implicitDefEqProofs only [↓slp, slb, ↓reduceIte, reduceCtorEq, jA, jB, jC, jD, jE, jF, jG, jH, jI, jJ, jK, tfCeRuns, f1, f3, f10, f11, f12, f14, f15, f16, gd5, hsub, ch, b1, b2, e0, Int.reduceBEq]
        refine hX _ _ ?_
        clear hX X
        refine aIf ?_; simp -implicitDefEqProofs only [↓slp, slb, ↓reduceIte, reduceCtorEq, jA, jB, jC, jD, jE, jF, jG, jH, jI, jJ, jK]
        (repeat (first | refine aSeq fun X hX => ?_ | refine aBlk ?_ | refine aSkip ?_ | (first | refine aExit ?_ | refine aRet ?_); try simp only [slx, ↓reduceIte, Nat.reduceEqDiff, reduceCtorEq] | (refine hX _ _ ?_; clear hX X) | (clear hX X; refine hX _ _ ?_; clear hX X)))
        exact last _ m5 hlr5 hms5 hc5 (by simp -implicitDefEqProofs only [↓slp, slb, ↓reduceIte, reduceCtorEq, jA, jB, jC, jD, jE, jF, jG, jH, jI, jJ, jK, tfCeRuns, f1]) (by simp -implicitDefEqProofs only [↓slp, slb, ↓reduceIte, reduceCtorEq, jA, jB, jC, jD, jE, jF, jG, jH, jI, jJ, jK, tfCeRuns, f3]) (by simp -implicitDefEqProofs only [↓slp, slb, ↓reduceIte, reduceCtorEq, jA, jB, jC, jD, jE, jF, jG, jH, jI, jJ, jK, tfCeRuns, f10]) (by simp -implicitDefEqProofs only [↓slp, slb, ↓reduceIte, reduceCtorEq, jA, jB, jC, jD, jE, jF, jG, jH, jI, jJ, jK, tfCeRuns, f11]) (by simp -implicitDefEqProofs only [↓slp, slb, ↓reduceIte, reduceCtorEq, jA, jB, jC, jD, jE, jF, jG, jH, jI, jJ, jK, tfCeRuns, f12]) (by simp -implicitDefEqProofs only [↓slp, slb, ↓reduceIte, reduceCtorEq, jA, jB, jC, jD, jE, jF, jG, jH, jI, jJ, jK, tfCeRuns, f14]) (by simp -implicitDefEqProofs only [↓slp, slb, ↓reduceIte, reduceCtorEq, jA, jB, jC, jD, jE, jF, jG, jH, jI, jJ, jK, tfCeRuns, f15])
    clear hX
    have hN : ∀ (m4 : M) (how : Nat) (vs : Nat → Int) (bs : Nat → Bool) (s4 : CM) (r : CRn (List Int)), (evSts body body [(sVa, x)] ⟨s.mem, s.tch, fu⟩).bind (fun env m => outsC env [nmV 1] m) = r → ((r = .ok [vs 1] s4 ∧ how = 0) ∨ (r = .bad how s4 ∧ 0 < how ∧ how < 255)) → LR p vs bs s4 how m4 → Chg p.ids m3 m4 →
        ∀ g : F, g 1 = .sl .no (xs.map pJ) → g 3 = .v (.int .u16 u) → g 10 = .sl .no (body.map CS.pv) → g 11 = .v (.int .i64 k) → g 12 = .bp mid 0 → g 14 = .bp p.did 0 → g 15 = .v (.int .i64 q) → g 16 = .v (.int .i64 fu) → X g m4 :=
      fun m4 how vs bs s4 r h1 h2 h3 hc g g1 g3 g10 g11 g12 g14 g15 g16 => join g m4 how vs bs s4 r (hrr.trans h1) h2 h3 (hms3.chg hc hap.a1 hap.a2 hap.a3) g1 g3 g10 g11 g12 g14 g15 g16
    clear join hrr
    rcases hret with ⟨env, vs1, bs1, s1, hev, hE, h32, hlr⟩ | ⟨hw, s1, vs1, bs1, hev, hw255, hlr⟩
    · have gd := hlr.gd
      have hro : (evSts body body [(sVa, x)] ⟨s.mem, s.tch, fu⟩).bind (fun env m => outsC env [nmV 1] m) = _ := (CRn.bind_ok hev).trans (outs_b hE s1)
      cases hb : bs1 1 with
      | true =>
        rw [hb, if_pos rfl] at hro
        have hl2 := hlr.box hp (vs' := vs1) (bs' := bs1) (left' := s1.left) (how' := 0) hlr.l62
        (repeat (first | refine aSeq fun X hX => ?_ | refine aBlk ?_ | refine aSkip ?_ | (first | refine aExit ?_ | refine aRet ?_); try simp only [slx, ↓reduceIte, Nat.reduceEqDiff, reduceCtorEq] | (first | refine aReg ?_ | refine aDrE ?_ | refine aIf ?_); simp -implicitDefEqProofs only [forall_eq, ↓slp, slb, ↓reduceIte, reduceCtorEq, jA, jB, jC, jD, jE, jF, jG, jH, jI, jJ, jK, tfCeRuns, f14, gd, hb, e255, Int.reduceBEq] | refine hX _ _ ?_; clear hX X | clear hX X; refine hX _ _ ?_; clear hX X | clear hX X; clear hX X; refine hX _ _ ?_; clear hX X | intro hlen; unfold maxLen at hlen | apply And.intro; focus (first | omega | assumption | (repeat' apply And.intro) <;> first | omega | assumption)))
        rw [← hb]
        exact hN _ 0 vs1 bs1 s1 _ hro (.inl ⟨rfl, rfl⟩) hl2 (chg_box _) _ (by simp -implicitDefEqProofs only [↓slp, slb, ↓reduceIte, reduceCtorEq, jA, jB, jC, jD, jE, jF, jG, jH, jI, jJ, jK, tfCeRuns, f1]) (by simp -implicitDefEqProofs only [↓slp, slb, ↓reduceIte, reduceCtorEq, jA, jB, jC, jD, jE, jF, jG, jH, jI, jJ, jK, tfCeRuns, f3]) (by simp -implicitDefEqProofs only [↓slp, slb, ↓reduceIte, reduceCtorEq, jA, jB, jC, jD, jE, jF, jG, jH, jI, jJ, jK, tfCeRuns, f10]) (by simp -implicitDefEqProofs only [↓slp, slb, ↓reduceIte, reduceCtorEq, jA, jB, jC, jD, jE, jF, jG, jH, jI, jJ, jK, tfCeRuns, f11]) (by simp -implicitDefEqProofs only [↓slp, slb, ↓reduceIte, reduceCtorEq, jA, jB, jC, jD, jE, jF, jG, jH, jI, jJ, jK, tfCeRuns, f12]) (by simp -implicitDefEqProofs only [↓slp, slb, ↓reduceIte, reduceCtorEq, jA, jB, jC, jD, jE, jF, jG, jH, jI, jJ, jK, tfCeRuns, f14]) (by simp -implicitDefEqProofs only [↓slp, slb, ↓reduceIte, reduceCtorEq, jA, jB, jC, jD, jE, jF, jG, jH, jI, jJ, jK, tfCeRuns, f15]) (by simp -implicitDefEqProofs only [↓slp, slb, ↓reduceIte, reduceCtorEq, jA, jB, jC, jD, jE, jF, jG, jH, jI, jJ, jK, tfCeRuns, f16])
      | false =>
        rw [hb, if_neg (by decide)] at hro
        have hl2 := hlr.box hp (vs' := vs1) (bs' := bs1) (left' := s1.left) (how' := 3) hlr.l62
        have gd10 : ∀ c, (m3.upd p.did c).get p.did = some c := fun c => get_upd_eq gd
        (repeat (first | refine aSeq fun X hX => ?_ | refine aBlk ?_ | refine aSkip ?_ | (first | refine aExit ?_ | refine aRet ?_); try simp only [slx, ↓reduceIte, Nat.reduceEqDiff, reduceCtorEq] | (first | refine aReg ?_ | refine aDrE ?_ | refine aIf ?_); simp -implicitDefEqProofs only [forall_eq, ↓slp, slb, ↓reduceIte, reduceCtorEq, jA, jB, jC, jD, jE, jF, jG, jH, jI, jJ, jK, tfCeRuns, f14, gd, gd10, hb, e255, Int.reduceBEq] | refine hX _ _ ?_; clear hX X | clear hX X; refine hX _ _ ?_; clear hX X | clear hX X; clear hX X; refine hX _ _ ?_; clear hX X | intro hlen; unfold maxLen at hlen | apply And.intro; focus (first | omega | assumption | (repeat' apply And.intro) <;> first | omega | assumption)))
        rw [← hb]
        exact hN _ 3 vs1 bs1 s1 _ hro (.inr ⟨rfl, by omega, by omega⟩) hl2 (chg_box _) _ (by simp -implicitDefEqProofs only [↓slp, slb, ↓reduceIte, reduceCtorEq, jA, jB, jC, jD, jE, jF, jG, jH, jI, jJ, jK, tfCeRuns, f1]) (by simp -implicitDefEqProofs only [↓slp, slb, ↓reduceIte, reduceCtorEq, jA, jB, jC, jD, jE, jF, jG, jH, jI, jJ, jK, tfCeRuns, f3]) (by simp -implicitDefEqProofs only [↓slp, slb, ↓reduceIte, reduceCtorEq, jA, jB, jC, jD, jE, jF, jG, jH, jI, jJ, jK, tfCeRuns, f10]) (by simp -implicitDefEqProofs only [↓slp, slb, ↓reduceIte, reduceCtorEq, jA, jB, jC, jD, jE, jF, jG, jH, jI, jJ, jK, tfCeRuns, f11]) (by simp -implicitDefEqProofs only [↓slp, slb, ↓reduceIte, reduceCtorEq, jA, jB, jC, jD, jE, jF, jG, jH, jI, jJ, jK, tfCeRuns, f12]) (by simp -implicitDefEqProofs only [↓slp, slb, ↓reduceIte, reduceCtorEq, jA, jB, jC, jD, jE, jF, jG, jH, jI, jJ, jK, tfCeRuns, f14]) (by simp -implicitDefEqProofs only [↓slp, slb, ↓reduceIte, reduceCtorEq, jA, jB, jC, jD, jE, jF, jG, jH, jI, jJ, jK, tfCeRuns, f15]) (by simp -implicitDefEqProofs only [↓slp, slb, ↓reduceIte, reduceCtorEq, jA, jB, jC, jD, jE, jF, jG, jH, jI, jJ, jK, tfCeRuns, f16])
    · have gd := hlr.gd
      have ch : ((hw : Int) == 255) = false := by simp; omega
      (repeat (first | refine aSeq fun X hX => ?_ | refine aBlk ?_ | refine aSkip ?_ | (first | refine aExit ?_ | refine aRet ?_); try simp only [slx, ↓reduceIte, Nat.reduceEqDiff, reduceCtorEq] | (first | refine aReg ?_ | refine aDrE ?_ | refine aIf ?_); simp -implicitDefEqProofs only [forall_eq, ↓slp, slb, ↓reduceIte, reduceCtorEq, jA, jB, jC, jD, jE, jF, jG, jH, jI, jJ, jK, tfCeRuns, f14, gd, ch] | refine hX _ _ ?_; clear hX X | clear hX X; refine hX _ _ ?_; clear hX X | clear hX X; clear hX X; refine hX _ _ ?_; clear hX X | intro hlen; unfold maxLen at hlen | apply And.intro; focus (first | omega | assumption | (repeat' apply And.intro) <;> first | omega | assumption)))
      exact hN _ hw vs1 bs1 s1 _ (CRn.bind_bad hev) (.inr ⟨rfl, hw255⟩) hlr (.refl _ _) _ (by simp -implicitDefEqProofs only [↓slp, slb, ↓reduceIte, reduceCtorEq, jA, jB, jC, jD, jE, jF, jG, jH, jI, jJ, jK, tfCeRuns, f1]) (by simp -implicitDefEqProofs only [↓slp, slb, ↓reduceIte, reduceCtorEq, jA, jB, jC, jD, jE, jF, jG, jH, jI, jJ, jK, tfCeRuns, f3]) (by simp -implicitDefEqProofs only [↓slp, slb, ↓reduceIte, reduceCtorEq, jA, jB, jC, jD, jE, jF, jG, jH, jI, jJ, jK, tfCeRuns, f10]) (by simp -implicitDefEqProofs only [↓slp, slb, ↓reduceIte, reduceCtorEq, jA, jB, jC, jD, jE, jF, jG, jH, jI, jJ, jK, tfCeRuns, f11]) (by simp -implicitDefEqProofs only [↓slp, slb, ↓reduceIte, reduceCtorEq, jA, jB, jC, jD, jE, jF, jG, jH, jI, jJ, jK, tfCeRuns, f12]) (by simp -implicitDefEqProofs only [↓slp, slb, ↓reduceIte, reduceCtorEq, jA, jB, jC, jD, jE, jF, jG, jH, jI, jJ, jK, tfCeRuns, f14]) (by simp -implicitDefEqProofs only [↓slp, slb, ↓reduceIte, reduceCtorEq, jA, jB, jC, jD, jE, jF, jG, jH, jI, jJ, jK, tfCeRuns, f15]) (by simp -implicitDefEqProofs only [↓slp, slb, ↓reduceIte, reduceCtorEq, jA, jB, jC, jD, jE, jF, jG, jH, jI, jJ, jK, tfCeRuns, f16])
set_option maxHeartbeats 4000000 in
theorem runs_any (l xs : List Int) (n u : Int) (hl : ∀ x ∈ l, 0 ≤ x ∧ x ≤ 255) (hx32 : ∀ x ∈ xs, R32 x) (hn : 0 ≤ n ∧ n ≤ 255) (hu : 0 ≤ u ∧ u ≤ 65535) :
    ACalls Try.prog 6 [.sl .no (l.map pU), .sl .no (xs.map pJ), .v (.int .u8 n), .v (.int .u16 u)] M0 (fun v m' => v = .v (.bool true)) := by
  cases c1 : decide ((l.length : Int) > 300) with
  | true =>
    refine ACalls.enter (mu := [9, 55]) ok_mix Try.func6 rfl (by kernel_rfl) (by kernel_rfl) (by simp only [List.length_cons, List.length_nil, Try.ntmps6]; omega) ?_
    (repeat (first | refine aSeq fun X hX => ?_ | refine aBlk ?_ | refine aSkip ?_ | (first | refine aExit ?_ | refine aRet ?_); try simp only [slx, ↓reduceIte, Nat.reduceEqDiff, reduceCtorEq] | (first | refine aReg ?_ | refine aDrE ?_); simp -implicitDefEqProofs only [forall_eq, ↓slp, slb, ↓reduceIte, reduceCtorEq, jA, jB, jC, jD, jE, jF, jG, jH, jI, jJ, jK, tfCeRuns, c1] | refine hX _ _ ?_; clear hX X | clear hX X; refine hX _ _ ?_; clear hX X | clear hX X; clear hX X; refine hX _ _ ?_; clear hX X | intro hlen; unfold maxLen at hlen | apply And.intro; focus (first | omega | assumption | (repeat' apply And.intro) <;> first | omega | assumption)))
    refine callE (awakeC _) ?_
    simp -implicitDefEqProofs only [↓slp, slb, ↓reduceIte, reduceCtorEq, jA, jB, jC, jD, jE, jF, jG, jH, jI, jJ, jK, tfCeRuns, c1]
    (repeat (first | refine aSeq fun X hX => ?_ | refine aBlk ?_ | refine aSkip ?_ | (first | refine aExit ?_ | refine aRet ?_); try simp only [slx, ↓reduceIte, Nat.reduceEqDiff, reduceCtorEq] | (first | refine aReg ?_ | refine aDrE ?_); simp -implicitDefEqProofs only [forall_eq, ↓slp, slb, ↓reduceIte, reduceCtorEq, jA, jB, jC, jD, jE, jF, jG, jH, jI, jJ, jK, tfCeRuns, c1] | refine hX _ _ ?_; clear hX X | clear hX X; refine hX _ _ ?_; clear hX X | clear hX X; clear hX X; refine hX _ _ ?_; clear hX X | intro hlen; unfold maxLen at hlen | apply And.intro; focus (first | omega | assumption | (repeat' apply And.intro) <;> first | omega | assumption)))
    refine aIf ?_; simp -implicitDefEqProofs only [↓slp, slb, ↓reduceIte, reduceCtorEq, jA, jB, jC, jD, jE, jF, jG, jH, jI, jJ, jK]
    (repeat (first | refine aSeq fun X hX => ?_ | refine aBlk ?_ | refine aSkip ?_ | (first | refine aExit ?_ | refine aRet ?_); try simp only [slx, ↓reduceIte, Nat.reduceEqDiff, reduceCtorEq] | (first | refine aReg ?_ | refine aDrE ?_); simp -implicitDefEqProofs only [forall_eq, ↓slp, slb, ↓reduceIte, reduceCtorEq, jA, jB, jC, jD, jE, jF, jG, jH, jI, jJ, jK, tfCeRuns] | refine hX _ _ ?_; clear hX X | clear hX X; refine hX _ _ ?_; clear hX X | clear hX X; clear hX X; refine hX _ _ ?_; clear hX X | intro hlen; unfold maxLen at hlen | apply And.intro; focus (first | omega | assumption | (repeat' apply And.intro) <;> first | omega | assumption)))
    refine callE (awakeC _) ?_
    simp -implicitDefEqProofs only [↓slp, slb, ↓reduceIte, reduceCtorEq, jA, jB, jC, jD, jE, jF, jG, jH, jI, jJ, jK, tfCeRuns]
    (repeat (first | refine aSeq fun X hX => ?_ | refine aBlk ?_ | refine aSkip ?_ | (first | refine aExit ?_ | refine aRet ?_); try simp only [slx, ↓reduceIte, Nat.reduceEqDiff, reduceCtorEq] | (first | refine aReg ?_ | refine aDrE ?_); simp -implicitDefEqProofs only [forall_eq, ↓slp, slb, ↓reduceIte, reduceCtorEq, jA, jB, jC, jD, jE, jF, jG, jH, jI, jJ, jK, tfCeRuns] | refine hX _ _ ?_; clear hX X | clear hX X; refine hX _ _ ?_; clear hX X | clear hX X; clear hX X; refine hX _ _ ?_; clear hX X | intro hlen; unfold maxLen at hlen | apply And.intro; focus (first | omega | assumption | (repeat' apply And.intro) <;> first | omega | assumption)))
    simp only [aPost, Try.results6, aRes_n, aRes_t, aRes_c, pack_one, pack_two]
    exact leave_same rfl rfl
  | false =>
  cases c2 : decide ((xs.length : Int) > 12) with
  | true =>
    refine ACalls.enter (mu := [9, 55]) ok_mix Try.func6 rfl (by kernel_rfl) (by kernel_rfl) (by simp only [List.length_cons, List.length_nil, Try.ntmps6]; omega) ?_
    (repeat (first | refine aSeq fun X hX => ?_ | refine aBlk ?_ | refine aSkip ?_ | (first | refine aExit ?_ | refine aRet ?_); try simp only [slx, ↓reduceIte, Nat.reduceEqDiff, reduceCtorEq] | (first | refine aReg ?_ | refine aDrE ?_); simp -implicitDefEqProofs only [forall_eq, ↓slp, slb, ↓reduceIte, reduceCtorEq, jA, jB, jC, jD, jE, jF, jG, jH, jI, jJ, jK, tfCeRuns, c1, c2] | refine hX _ _ ?_; clear hX X | clear hX X; refine hX _ _ ?_; clear hX X | clear hX X; clear hX X; refine hX _ _ ?_; clear hX X | intro hlen; unfold maxLen at hlen | apply And.intro; focus (first | omega | assumption | (repeat' apply And.intro) <;> first | omega | assumption)))
    refine callE (awakeC _) ?_
    simp -implicitDefEqProofs only [↓slp, slb, ↓reduceIte, reduceCtorEq, jA, jB, jC, jD, jE, jF, jG, jH, jI, jJ, jK, tfCeRuns, c1, c2]
    (repeat (first | refine aSeq fun X hX => ?_ | refine aBlk ?_ | refine aSkip ?_ | (first | refine aExit ?_ | refine aRet ?_); try simp only [slx, ↓reduceIte, Nat.reduceEqDiff, reduceCtorEq] | (first | refine aReg ?_ | refine aDrE ?_); simp -implicitDefEqProofs only [forall_eq, ↓slp, slb, ↓reduceIte, reduceCtorEq, jA, jB, jC, jD, jE, jF, jG, jH, jI, jJ, jK, tfCeRuns, c1, c2] | refine hX _ _ ?_; clear hX X | clear hX X; refine hX _ _ ?_; clear hX X | clear hX X; clear hX X; refine hX _ _ ?_; clear hX X | intro hlen; unfold maxLen at hlen | apply And.intro; focus (first | omega | assumption | (repeat' apply And.intro) <;> first | omega | assumption)))
    refine aIf ?_; simp -implicitDefEqProofs only [↓slp, slb, ↓reduceIte, reduceCtorEq, jA, jB, jC, jD, jE, jF, jG, jH, jI, jJ, jK]
    (repeat (first | refine aSeq fun X hX => ?_ | refine aBlk ?_ | refine aSkip ?_ | (first | refine aExit ?_ | refine aRet ?_); try simp only [slx, ↓reduceIte, Nat.reduceEqDiff, reduceCtorEq] | (first | refine aReg ?_ | refine aDrE ?_); simp -implicitDefEqProofs only [forall_eq, ↓slp, slb, ↓reduceIte, reduceCtorEq, jA, jB, jC, jD, jE, jF, jG, jH, jI, jJ, jK, tfCeRuns] | refine hX _ _ ?_; clear hX X | clear hX X; refine hX _ _ ?_; clear hX X | clear hX X; clear hX X; refine hX _ _ ?_; clear hX X | intro hlen; unfold maxLen at hlen | apply And.intro; focus (first | omega | assumption | (repeat' apply And.intro) <;> first | omega | assumption)))
    refine callE (awakeC _) ?_
    simp -implicitDefEqProofs only [↓slp, slb, ↓reduceIte, reduceCtorEq, jA, jB, jC, jD, jE, jF, jG, jH, jI, jJ, jK, tfCeRuns]
    (repeat (first | refine aSeq fun X hX => ?_ | refine aBlk ?_ | refine aSkip ?_ | (first | refine aExit ?_ | refine aRet ?_); try simp only [slx, ↓reduceIte, Nat.reduceEqDiff, reduceCtorEq] | (first | refine aReg ?_ | refine aDrE ?_); simp -implicitDefEqProofs only [forall_eq, ↓slp, slb, ↓reduceIte, reduceCtorEq, jA, jB, jC, jD, jE, jF, jG, jH, jI, jJ, jK, tfCeRuns] | refine hX _ _ ?_; clear hX X | clear hX X; refine hX _ _ ?_; clear hX X | clear hX X; clear hX X; refine hX _ _ ?_; clear hX X | intro hlen; unfold maxLen at hlen | apply And.intro; focus (first | omega | assumption | (repeat' apply And.intro) <;> first | omega | assumption)))
    simp only [aPost, Try.results6, aRes_n, aRes_t, aRes_c, pack_one, pack_two]
    exact leave_same rfl rfl
  | false =>
    exact runs_main l xs n u hl hx32 hn hu (by simp at c1; omega) (by simp at c2; omega)
end Go.Proofs.Ytepjjgnkhcjpcaa
