/-
 The spoiler: now, expressions.
-/
-- halved
import Derived.Test.YtibhhoknipdlpaaQA
import Derived.Test.YtibhhoknipdlpaaPlA
set_option linter.unusedVariables false
set_option linter.unusedSimpArgs false
namespace Go.Proofs.Ytibhhoknipdlpaa
open Nat renaming reduceEqDiff → jA, reduceAdd → jB, reduceMul → jC, reduceLT → jD, reduceLeDiff → jE, reduceBEq → jF, reduceBNe → jG
open Int renaming reduceLE → jH, reduceLT → jI, reduceToNat → jJ, reduceEq → jK
open Go
-- EXX: spt_nb, spt_nt, spt_fresh, spt_use, spt_free, spt_alive, spt_a, spt_upda, spt_ext, spt_ext2, spt_ea, spt_own, spt_own0, spt_ou, spt_ou0
set_option maxRecDepth 20000
-- TNAMES: int; uint8; int32; string; bool; []string; []api.Expr; api.Expr; *metronomeref04.spoiler; metronomeref04.spoiler; api.Pos
set_option linter.defProp false
def Y5 := And.intro @slb (And.intro @tfA (And.intro @Ex.settle_pv (And.intro @Ex.pure_pv (And.intro @Ex.cells_pv (And.intro @Ex.cs.eq_1 (And.intro @On.pv.eq_1 (And.intro @Ty.pv.eq_1 (And.intro @Va.settle_pv (And.intro @Va.pure_pv (And.intro @Va.cells_pv (And.intro @Va.cs.eq_1 (And.intro @spt_nb (And.intro @spt_nt (And.intro @spt_fresh (And.intro @spt_use (And.intro @spt_free (And.intro @spt_alive (And.intro @spt_a (And.intro @spt_upda (And.intro @spt_ext (And.intro @spt_ext2 (And.intro @spt_ea (And.intro @spt_own (And.intro @spt_own0 (And.intro @spt_ou @spt_ou0)))))))))))))))))))))))))

set_option maxHeartbeats 1000000 in
theorem snow_any (p : Int × Int) (a : Nat) (m : M) (hA : a < m.nb) (n : Int) : ACalls Try.prog 107 [.bp a 0] (spt p a m n) (fun v m' => v = pB (nxt n == p.1) ∧ m' = spt p a m (nxt n)) := by
 refine ACalls.enter (mu := []) ok_mix Try.func107 rfl (by kernel_rfl) (by kernel_rfl) (by simp only [List.length_cons, List.length_nil, Try.ntmps107]; omega) ?_
 (repeat (first | refine aSeq fun X hX => ?_ | refine aRet ?_ | (first | apply aReg | refine aDrE ?_); simp -implicitDefEqProofs only [forall_eq, ↓slp, ↓reduceIte, reduceCtorEq, jA, jB, jD, jE, Y5, hA] | apply hX; clear hX X))
 simp only [aPost, Try.results107, aRes_n, aRes_t, aRes_c, pack_one, pack_two]
 simp -implicitDefEqProofs only [slb, ↓reduceIte]
 exact leave_spt0 hA (.refl m) rfl ⟨rfl, rfl⟩

def SEx (p : Int × Int) (e : Ex) : Prop := e.nar → ∀ (a : Nat) (m : M), a < m.nb → ∀ n, ACalls Try.prog 108 [.bp a 0, e.pv] (spt p a m n) (fun v m' => ∃ (e' : Ex) (n' : Int), v = e'.pv ∧ m' = spt p a m n')
set_option maxHeartbeats 8000000 in
theorem sexpr_any (p : Int × Int) (hp : 0 ≤ p.2) (e : Ex) : SEx p e := by
 refine Ex.ind (motive := SEx p) (fun e IH => ?_) e
 intro hn a m hA n
 obtain ⟨hkl, hks⟩ := Ex.nar_x hn
 refine ACalls.enter (mu := [3, 4]) ok_mix Try.func108 rfl (by kernel_rfl) (by kernel_rfl) (by simp only [List.length_cons, List.length_nil, Try.ntmps108]; omega) ?_
 (repeat (first | refine aSeq fun X hX => ?_ | refine aReg ?_; simp -implicitDefEqProofs only [↓slp, ↓reduceIte, reduceCtorEq, jB, jF, Y5, hA]; try simp only [fo] | apply hX; clear hX X))
 refine callM (snow_any p a _ (by first | assumption | (rw [ext_nb]; omega)) n) ?_
 rintro v m' ⟨rfl, rfl⟩
 generalize hnow : (nxt n == p.1) = b
 simp -implicitDefEqProofs only [↓slp, ↓reduceIte, jF, Y5]; try simp only [fo]
 (repeat (first | refine aSeq fun X hX => ?_ | refine aBlk ?_ | refine aReg ?_; simp -implicitDefEqProofs only [↓slp, jF, Y5]; try simp only [fo] | apply hX; clear hX X))
 obtain ⟨I, hI⟩ : ∃ I : F → M → Prop, ∀ f m', I f m' = (∃ (k : Nat) (o : Own) (mm : M) (K : List Ex) (n' : Int), k ≤ e.kids.length ∧ K.length = k ∧ f 0 = .bp a 0 ∧ f 3 = .bp m.nb 0 ∧ f 4 = .bp (m.nb + 1) 0 ∧ f 5 = pB b ∧ f 6 = .sl o (K.map Ex.pv) ∧ f 7 = pI k ∧
  m' = spt p a (mm.ext [some [.v (.int .u8 e.kind), .v (.int .u8 e.op), .v (.int .i32 e.n), .v (.string e.name), .sl .no (e.names.map pS), .sl .no (e.kids.map Ex.pv), .v (.int .i64 e.line), .v (.int .i64 e.col)], some [.v (.int .u8 0), .v (.int .u8 0), .v (.int .i32 0), .v (.string ⟨#[]⟩), .sl .full [], .sl .full [], .v (.int .i64 0), .v (.int .i64 0)]]) n' ∧ Toks m mm ∧ Mine m mm o 8) := ⟨_, fun _ _ => rfl⟩
 refine aLoop I (fun f m => e.kids.length - numOf (f 7)) ?_ ?_
 ·rw [hI]; exact ⟨0, .full, m, [], _, by omega, rfl, rfl, rfl, rfl, rfl, rfl, rfl, rfl, .refl m, .full⟩
 intro f m' hrel
 rw [hI] at hrel
 obtain ⟨k, o, mm, K, n', hk, hKl, f0, f3, f4, f5, f6, f7, rfl, ht, ho⟩ := hrel
 have hnb := ht.nb
 have hAm : a < mm.nb := by omega
 rw [← hnb] at f3 f4
 cases c1 : decide ((k : Int) < (e.kids.length : Int)) with
 | true =>
  have hlt : k < e.kids.length := by simpa using c1
  have hg := getD_map Ex.pv e.kids k hlt
  have hi : IntKind.i64.wrap ((k : Int) + 1) = ((k + 1 : Nat) : Int) := by rw [wrap64 (by omega)]; omega
  have hme : numOf (f 7) = k := by rw [f7]; exact Int.toNat_natCast k
  have ih := IH k hlt (Ex.nars_mem _ hks _ (List.getElem_mem hlt))
  generalize e.kids[k] = x at *
  (repeat (first | refine aSeq fun X hX => ?_ | refine aBlk ?_ | refine aSkip ?_ | (first | apply aReg | apply aIf); simp -implicitDefEqProofs only [↓slp, ↓reduceIte, reduceCtorEq, jA, jB, jD, jE, jF, Y5, f0, f3, f6, f7, pI, c1, hAm, hg]; try simp only [fo] | apply hX; clear hX X | intro hlen; unfold maxLen at hlen | apply And.intro; focus omega))
  refine callM (ih a _ (by rw [ext_nb]; omega) _) ?_
  rintro v m' ⟨x', n2, rfl, rfl⟩
  have hfree := ho.free
  have q1 : K.length + 1 ≤ maxLen := by unfold maxLen; omega
  have q2 : (K.length + 1) * 88 ≤ 140737488355328 := by omega
  have q3 := ex_len K
  simp -implicitDefEqProofs only [↓slp, ↓reduceIte, jA, jB, jC, jE, jF, Y5, f7, pI]; try simp only [fo]
  refine ⟨⟨hfree, q3, q1, q2⟩, ?_⟩
  (repeat (first | refine aReg ?_; simp -implicitDefEqProofs only [↓slp, ↓reduceIte, jA, jF, Y5, f7, pI, hi]; try simp only [fo] | apply hX; clear hX X))
  rw [hI]
  exact ⟨⟨k + 1, .tok mm.nt, _, K ++ [x'], n2, hlt, by simp [hKl], f0, by rw [← hnb]; exact f3, by rw [← hnb]; exact f4, f5, by rw [List.map_append]; rfl, rfl, rfl, ht.use ho, Mine.new ht o 8⟩, by omega⟩
 | false =>
  clear IH hI
  cases b with
  | false =>
   (repeat (first | refine aSeq fun X hX => ?_ | (first | refine aExit ?_ | refine aRet ?_); try simp only [slx, ↓reduceIte, jA, reduceCtorEq] | (first | apply aReg | apply aIf); simp -implicitDefEqProofs only [↓slp, ↓reduceIte, reduceCtorEq, jA, jB, jD, jE, jF, Y5, f3, f4, f5, f6, f7, pI, pB, c1, hAm]; try simp only [fo] | apply hX; clear hX X | clear hX X; apply hX; clear hX X | intro hlen; unfold maxLen at hlen))
   simp only [aPost, Try.results108, aRes_n, aRes_t, aRes_c, pack_one, pack_two]
   simp -implicitDefEqProofs only [↓reduceIte, jA, jB, jE, Y5, f4, hAm]
   exact leave_spt hA ht rfl ⟨Ex.mk e.kind e.op e.n e.name e.names K e.line e.col, _, by rw [Ex.pv_eq]; rfl, rfl⟩
  | true =>
   obtain ⟨j, hj, hj1, hj2⟩ : ∃ j : Int, Int.tmod p.2 12 = j ∧ 0 ≤ j ∧ j < 12 := ⟨_, rfl, Int.tmod_nonneg _ hp, Int.tmod_lt_of_pos _ (by decide)⟩
   (repeat (first | refine aSeq fun X hX => ?_ | refine aSkip ?_ | refine aExit ?_; try simp only [slx, ↓reduceIte, jA, reduceCtorEq] | (first | apply aReg | apply aIf); simp -implicitDefEqProofs only [↓slp, ↓reduceIte, reduceCtorEq, jA, jB, jD, jE, jF, jK, Y5, f0, f3, f5, f6, f7, pI, pB, c1, hAm, hj]; try simp only [fo] | apply hX; clear hX X | clear hX X; apply hX; clear hX X | intro hlen; unfold maxLen at hlen))
   have ex8 : (PV.ag (Ex.mk e.kind e.op e.n e.name e.names K e.line e.col).cs).cells.length = 8 := rfl
   refine ⟨fun hb => ?_, fun hb => ?_⟩
   ·(repeat (first | refine aSeq fun X hX => ?_ | refine aRet ?_; try simp only [slx, ↓reduceIte, jA, reduceCtorEq] | refine aReg ?_; simp -implicitDefEqProofs only [↓slp, ↓reduceIte, reduceCtorEq, jA, jB, jD, jE, jF, Y5, f3, f4, hAm] | apply hX; clear hX X))
    simp only [aPost, Try.results108, aRes_n, aRes_t, aRes_c, pack_one, pack_two]
    simp -implicitDefEqProofs only [↓reduceIte, jA, jB, jE, Y5, f4, hAm]
    exact leave_spt hA ht rfl ⟨Ex.mk 4 0 0 ⟨#[120]⟩ [] [] e.line e.col, _, by rw [Ex.pv_eq]; rfl, rfl⟩
   (repeat (first | refine aSeq fun X hX => ?_ | (first | apply aReg | apply aIf); simp -implicitDefEqProofs only [↓slp, slb, ↓reduceIte, jA, jF] | apply hX; clear hX X))
   refine ⟨fun hb => ?_, fun hb => ?_⟩
   ·(repeat (first | refine aSeq fun X hX => ?_ | refine aRet ?_; try simp only [slx, ↓reduceIte, jA, reduceCtorEq] | refine aReg ?_; simp -implicitDefEqProofs only [↓slp, ↓reduceIte, reduceCtorEq, jA, jB, jD, jE, jF, Y5, f3, f4, hAm] | apply hX; clear hX X))
    simp only [aPost, Try.results108, aRes_n, aRes_t, aRes_c, pack_one, pack_two]
    simp -implicitDefEqProofs only [↓reduceIte, jA, jB, jE, Y5, f4, hAm]
    exact leave_spt hA ht rfl ⟨Ex.mk 4 0 0 ⟨#[110, 111]⟩ [] [] e.line e.col, _, by rw [Ex.pv_eq]; rfl, rfl⟩
   (repeat (first | refine aSeq fun X hX => ?_ | (first | apply aReg | apply aIf); simp -implicitDefEqProofs only [↓slp, slb, ↓reduceIte, jA, jF] | apply hX; clear hX X))
   refine ⟨fun hb => ?_, fun hb => ?_⟩
   ·(repeat (first | refine aSeq fun X hX => ?_ | refine aRet ?_; try simp only [slx, ↓reduceIte, jA, reduceCtorEq] | refine aReg ?_; simp -implicitDefEqProofs only [↓slp, ↓reduceIte, reduceCtorEq, jA, jB, jD, jE, jF, Y5, f3, f4, hAm] | apply hX; clear hX X))
    simp only [aPost, Try.results108, aRes_n, aRes_t, aRes_c, pack_one, pack_two]
    simp -implicitDefEqProofs only [↓reduceIte, jA, jB, jE, Y5, f4, hAm]
    exact leave_spt hA ht rfl ⟨Ex.mk 1 0 5 ⟨#[]⟩ [] [] e.line e.col, _, by rw [Ex.pv_eq]; rfl, rfl⟩
   (repeat (first | refine aSeq fun X hX => ?_ | (first | apply aReg | apply aIf); simp -implicitDefEqProofs only [↓slp, slb, ↓reduceIte, jA, jF] | apply hX; clear hX X))
   refine ⟨fun hb => ?_, fun hb => ?_⟩
   ·(repeat (first | refine aSeq fun X hX => ?_ | refine aRet ?_; try simp only [slx, ↓reduceIte, jA, reduceCtorEq] | refine aReg ?_; simp -implicitDefEqProofs only [↓slp, ↓reduceIte, reduceCtorEq, jA, jB, jD, jE, jF, Y5, f3, f4, hAm] | apply hX; clear hX X))
    simp only [aPost, Try.results108, aRes_n, aRes_t, aRes_c, pack_one, pack_two]
    simp -implicitDefEqProofs only [↓reduceIte, jA, jB, jE, Y5, f4, hAm]
    exact leave_spt hA ht rfl ⟨Ex.mk 2 0 1 ⟨#[]⟩ [] [] e.line e.col, _, by rw [Ex.pv_eq]; rfl, rfl⟩
   (repeat (first | refine aSeq fun X hX => ?_ | (first | apply aReg | apply aIf); simp -implicitDefEqProofs only [↓slp, slb, ↓reduceIte, jA, jF] | apply hX; clear hX X))
   refine ⟨fun hb => ?_, fun hb => ?_⟩
   ·(repeat (first | refine aSeq fun X hX => ?_ | refine aRet ?_; try simp only [slx, ↓reduceIte, jA, reduceCtorEq] | refine aReg ?_; simp -implicitDefEqProofs only [forall_eq, ↓slp, ↓reduceIte, reduceCtorEq, jA, jB, jC, jD, jE, jF, Y5, f3, f4, hAm] | apply hX; clear hX X))
    simp only [aPost, Try.results108, aRes_n, aRes_t, aRes_c, pack_one, pack_two]
    simp -implicitDefEqProofs only [↓reduceIte, jA, jB, jE, Y5, f4, hAm]
    exact leave_spt hA ht rfl ⟨Ex.mk 10 0 0 ⟨#[]⟩ [] [Ex.mk e.kind e.op e.n e.name e.names K e.line e.col] e.line e.col, _, by rw [Ex.pv_eq, Ex.cs, show (Ex.mk 10 0 0 ⟨#[]⟩ [] [Ex.mk e.kind e.op e.n e.name e.names K e.line e.col] e.line e.col).kids = [Ex.mk e.kind e.op e.n e.name e.names K e.line e.col] from rfl]; simp only [List.map_cons, List.map_nil, Ex.pv_eq (Ex.mk e.kind e.op e.n e.name e.names K e.line e.col)]; rfl, rfl⟩
   (repeat (first | refine aSeq fun X hX => ?_ | (first | apply aReg | apply aIf); simp -implicitDefEqProofs only [↓slp, slb, ↓reduceIte, jA, jF] | apply hX; clear hX X))
   refine ⟨fun hb => ?_, fun hb => ?_⟩
   ·(repeat (first | refine aSeq fun X hX => ?_ | refine aRet ?_; try simp only [slx, ↓reduceIte, jA, reduceCtorEq] | refine aReg ?_; simp -implicitDefEqProofs only [forall_eq, ↓slp, ↓reduceIte, reduceCtorEq, jA, jB, jC, jD, jE, jF, Y5, f3, f4, hAm] | apply hX; clear hX X))
    simp only [aPost, Try.results108, aRes_n, aRes_t, aRes_c, pack_one, pack_two]
    simp -implicitDefEqProofs only [↓reduceIte, jA, jB, jE, Y5, f4, hAm]
    exact leave_spt hA ht rfl ⟨Ex.mk 12 0 0 ⟨#[121]⟩ [⟨#[82, 101, 100]⟩] [Ex.mk e.kind e.op e.n e.name e.names K e.line e.col] e.line e.col, _, by rw [Ex.pv_eq, Ex.cs, show (Ex.mk 12 0 0 ⟨#[121]⟩ [⟨#[82, 101, 100]⟩] [Ex.mk e.kind e.op e.n e.name e.names K e.line e.col] e.line e.col).kids = [Ex.mk e.kind e.op e.n e.name e.names K e.line e.col] from rfl]; simp only [List.map_cons, List.map_nil, Ex.pv_eq (Ex.mk e.kind e.op e.n e.name e.names K e.line e.col)]; rfl, rfl⟩
   (repeat (first | refine aSeq fun X hX => ?_ | (first | apply aReg | apply aIf); simp -implicitDefEqProofs only [↓slp, slb, ↓reduceIte, jA, jF] | apply hX; clear hX X))
   refine ⟨fun hb => ?_, fun hb => ?_⟩
   ·(repeat (first | refine aSeq fun X hX => ?_ | refine aRet ?_; try simp only [slx, ↓reduceIte, jA, reduceCtorEq] | refine aReg ?_; simp -implicitDefEqProofs only [↓slp, ↓reduceIte, reduceCtorEq, jA, jB, jD, jE, jF, Y5, f3, f4, hAm] | apply hX; clear hX X))
    simp only [aPost, Try.results108, aRes_n, aRes_t, aRes_c, pack_one, pack_two]
    simp -implicitDefEqProofs only [↓reduceIte, jA, jB, jE, Y5, f4, hAm]
    exact leave_spt hA ht rfl ⟨Ex.mk 5 0 0 ⟨#[120]⟩ [] [] e.line e.col, _, by rw [Ex.pv_eq]; rfl, rfl⟩
   (repeat (first | refine aSeq fun X hX => ?_ | (first | apply aReg | apply aIf); simp -implicitDefEqProofs only [↓slp, slb, ↓reduceIte, jA, jF] | apply hX; clear hX X))
   refine ⟨fun hb => ?_, fun hb => ?_⟩
   ·(repeat (first | refine aSeq fun X hX => ?_ | refine aRet ?_; try simp only [slx, ↓reduceIte, jA, reduceCtorEq] | refine aReg ?_; simp -implicitDefEqProofs only [↓slp, ↓reduceIte, reduceCtorEq, jA, jB, jD, jE, jF, Y5, f3, f4, hAm] | apply hX; clear hX X))
    simp only [aPost, Try.results108, aRes_n, aRes_t, aRes_c, pack_one, pack_two]
    simp -implicitDefEqProofs only [↓reduceIte, jA, jB, jE, Y5, f4, hAm]
    exact leave_spt hA ht rfl ⟨Ex.mk 3 0 0 ⟨#[82, 101, 100]⟩ [] [] e.line e.col, _, by rw [Ex.pv_eq]; rfl, rfl⟩
   (repeat (first | refine aSeq fun X hX => ?_ | (first | apply aReg | apply aIf); simp -implicitDefEqProofs only [↓slp, slb, ↓reduceIte, jA, jF] | apply hX; clear hX X))
   refine ⟨fun hb => ?_, fun hb => ?_⟩
   ·(repeat (first | refine aSeq fun X hX => ?_ | refine aRet ?_; try simp only [slx, ↓reduceIte, jA, reduceCtorEq] | refine aReg ?_; simp -implicitDefEqProofs only [↓slp, ↓reduceIte, reduceCtorEq, jA, jB, jD, jE, jF, Y5, f3, f4, hAm] | apply hX; clear hX X))
    simp only [aPost, Try.results108, aRes_n, aRes_t, aRes_c, pack_one, pack_two]
    simp -implicitDefEqProofs only [↓reduceIte, jA, jB, jE, Y5, f4, hAm]
    exact leave_spt hA ht rfl ⟨Ex.mk 4 0 0 ⟨#[121]⟩ [] [] e.line e.col, _, by rw [Ex.pv_eq]; rfl, rfl⟩
   (repeat (first | refine aSeq fun X hX => ?_ | (first | apply aReg | apply aIf); simp -implicitDefEqProofs only [↓slp, slb, ↓reduceIte, jA, jF] | apply hX; clear hX X))
   refine ⟨fun hb => ?_, fun hb => ?_⟩
   ·(repeat (first | refine aSeq fun X hX => ?_ | refine aRet ?_; try simp only [slx, ↓reduceIte, jA, reduceCtorEq] | refine aReg ?_; simp -implicitDefEqProofs only [↓slp, ↓reduceIte, reduceCtorEq, jA, jB, jD, jE, jF, Y5, f3, f4, hAm] | apply hX; clear hX X))
    simp only [aPost, Try.results108, aRes_n, aRes_t, aRes_c, pack_one, pack_two]
    simp -implicitDefEqProofs only [↓reduceIte, jA, jB, jE, Y5, f4, hAm]
    exact leave_spt hA ht rfl ⟨Ex.mk 4 0 0 ⟨#[98]⟩ [] [] e.line e.col, _, by rw [Ex.pv_eq]; rfl, rfl⟩
   (repeat (first | refine aSeq fun X hX => ?_ | (first | apply aReg | apply aIf); simp -implicitDefEqProofs only [↓slp, slb, ↓reduceIte, jA, jF] | apply hX; clear hX X))
   refine ⟨fun hb => ?_, fun hb => ?_⟩
   ·(repeat (first | refine aSeq fun X hX => ?_ | refine aRet ?_; try simp only [slx, ↓reduceIte, jA, reduceCtorEq] | refine aReg ?_; simp -implicitDefEqProofs only [↓slp, ↓reduceIte, reduceCtorEq, jA, jB, jD, jE, jF, Y5, f3, f4, hAm] | apply hX; clear hX X))
    simp only [aPost, Try.results108, aRes_n, aRes_t, aRes_c, pack_one, pack_two]
    simp -implicitDefEqProofs only [↓reduceIte, jA, jB, jE, Y5, f4, hAm]
    exact leave_spt hA ht rfl ⟨Ex.mk 4 0 0 ⟨#[118, 49]⟩ [] [] e.line e.col, _, by rw [Ex.pv_eq]; rfl, rfl⟩
   (repeat (first | refine aSeq fun X hX => ?_ | refine aSkip ?_ | refine aRet ?_ | refine aReg ?_; simp -implicitDefEqProofs only [forall_eq, ↓slp, ↓reduceIte, reduceCtorEq, jA, jB, jC, jD, jE, jF, Y5, f3, f4, hAm] | apply hX; clear hX X))
   simp only [aPost, Try.results108, aRes_n, aRes_t, aRes_c, pack_one, pack_two]
   simp -implicitDefEqProofs only [↓reduceIte, jA, jB, jE, Y5, f4, hAm]
   exact leave_spt hA ht rfl ⟨Ex.mk 13 0 0 ⟨#[121]⟩ [⟨#[82, 101, 100]⟩, ⟨#[71, 114, 101, 101, 110]⟩, ⟨#[66, 108, 117, 101]⟩] [Ex.mk e.kind e.op e.n e.name e.names K e.line e.col, Ex.mk e.kind e.op e.n e.name e.names K e.line e.col, Ex.mk e.kind e.op e.n e.name e.names K e.line e.col] e.line e.col, _, by rw [Ex.pv_eq, Ex.cs, show (Ex.mk 13 0 0 ⟨#[121]⟩ [⟨#[82, 101, 100]⟩, ⟨#[71, 114, 101, 101, 110]⟩, ⟨#[66, 108, 117, 101]⟩] [Ex.mk e.kind e.op e.n e.name e.names K e.line e.col, Ex.mk e.kind e.op e.n e.name e.names K e.line e.col, Ex.mk e.kind e.op e.n e.name e.names K e.line e.col] e.line e.col).kids = [Ex.mk e.kind e.op e.n e.name e.names K e.line e.col, Ex.mk e.kind e.op e.n e.name e.names K e.line e.col, Ex.mk e.kind e.op e.n e.name e.names K e.line e.col] from rfl]; simp only [List.map_cons, List.map_nil, Ex.pv_eq (Ex.mk e.kind e.op e.n e.name e.names K e.line e.col)]; rfl, rfl⟩
end Go.Proofs.Ytibhhoknipdlpaa
