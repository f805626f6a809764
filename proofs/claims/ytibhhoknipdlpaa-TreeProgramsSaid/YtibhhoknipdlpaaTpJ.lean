/-
 Places for ways out.
-/
-- halved
import Derived.Test.YtibhhoknipdlpaaPlA
import Derived.Test.YtibhhoknipdlpaaDA
set_option linter.unusedVariables false
set_option linter.unusedSimpArgs false
namespace Go.Proofs.Ytibhhoknipdlpaa
open Nat renaming reduceEqDiff → jA, reduceAdd → jB, reduceMul → jC, reduceLT → jD, reduceLeDiff → jE, reduceBEq → jF, reduceBNe → jG
open Int renaming reduceLE → jH, reduceLT → jI, reduceToNat → jJ, reduceEq → jK
open Go
-- EXX: Tr.settle_pv, Tr.pure_pv, Tr.cells_pv, Tr.cs, cnt_nb, cnt_nt, cnt_fresh, cnt_use, cnt_free, cnt_alive, cnt_a, cnt_upda, cnt_ext, cnt_ext2, cnt_ea, cnt_own, cnt_own0, cnt_ou, cnt_ou0
set_option maxRecDepth 20000
-- TNAMES: int; uint8; int32; string; bool; []string; []api.Expr; api.Expr; *metronomeref04.counter; metronomeref04.counter; api.Pos; api.Type; []api.On; api.Var; []api.Var; api.Trans; []api.Trans


def plT (t : Tr) (c : Int) : Tr × Int := (⟨(plE t.e (nxt c)).1, t.to, t.resume, nxt c, 1⟩, (plE t.e (nxt c)).2)
def plTs : List Tr → Int → List Tr × Int
 | [], c => ([], c)
 | v :: l, c => ((plT v c).1 :: (plTs l (plT v c).2).1, (plTs l (plT v c).2).2)
theorem plTs_snoc (l : List Tr) (x : Tr) : ∀ c, plTs (l ++ [x]) c = ((plTs l c).1 ++ [(plT x (plTs l c).2).1], (plT x (plTs l c).2).2) := by
 induction l with
 | nil => intro c; simp [plTs]
 | cons a l ih => intro c; simp [plTs, ih]
theorem plTs_len (l : List Tr) : ∀ c, (plTs l c).1.length = l.length := by
 induction l with
 | nil => intro c; rfl
 | cons a l ih => intro c; simp [plTs, ih]
set_option maxHeartbeats 4000000 in
theorem cways_any (l : List Tr) (hl : l.length ≤ 100000000) (hx : ∀ v ∈ l, v.e.nar) (a : Nat) (m : M) (hA : a < m.nb) (n : Int) : ACalls Try.prog 106 [.bp a 0, .sl .no (l.map Tr.pv)] (cnt a m n) (fun v m' => v = .sl .no ((plTs l n).1.map Tr.pv) ∧ m' = cnt a m (plTs l n).2) := by
 refine ACalls.enter (mu := [7]) ok_mix Try.func106 rfl (by kernel_rfl) (by kernel_rfl) (by simp only [List.length_cons, List.length_nil, Try.ntmps106]; omega) ?_
 (repeat (first | refine aSeq fun X hX => ?_ | refine aBlk ?_ | refine aReg ?_; simp -implicitDefEqProofs only [↓slp, jF, Y0] | apply hX; clear hX X))
 obtain ⟨I, hI⟩ : ∃ I : F → M → Prop, ∀ f m', I f m' = (∃ (k : Nat) (o : Own) (mb : M), k ≤ l.length ∧ f 0 = .bp a 0 ∧ f 1 = .sl .no (l.map Tr.pv) ∧ f 5 = .sl o ((plTs (l.take k) n).1.map Tr.pv) ∧ f 6 = pI k ∧ m' = cnt a mb (plTs (l.take k) n).2 ∧ BaseR m mb ∧ Mine m mb o 12) := ⟨_, fun _ _ => rfl⟩
 refine aLoop I (fun f m => l.length - numOf (f 6)) ?_ ?_
 ·rw [hI]; exact ⟨0, .full, m, by omega, rfl, rfl, rfl, rfl, rfl, .refl m, .full⟩
 intro f m' hrel
 rw [hI] at hrel
 obtain ⟨k, o, mb, hk, f0, f1, f5, f6, rfl, hB, ho⟩ := hrel
 have hAb : a < mb.nb := Nat.lt_of_lt_of_le hA hB.nb
 cases c1 : decide ((k : Int) < (l.length : Int)) with
 | true =>
  have hlt : k < l.length := by simpa using c1
  have hg := getD_map Tr.pv l k hlt
  have hi : IntKind.i64.wrap ((k : Int) + 1) = ((k + 1 : Nat) : Int) := by rw [wrap64 (by omega)]; omega
  have hme : numOf (f 6) = k := by rw [f6]; exact Int.toNat_natCast k
  have htk : l.take (k + 1) = l.take k ++ [l[k]] := List.take_succ_eq_append_getElem hlt
  have hsn := plTs_snoc (l.take k) l[k] n
  rw [← htk] at hsn
  have hlen := plTs_len (l.take k) n
  rw [List.length_take, Nat.min_eq_left hk] at hlen
  have hv := hx _ (List.getElem_mem hlt)
  generalize l[k] = x at *
  generalize hP : plTs (l.take k) n = P at *
  (repeat (first | refine aSeq fun X hX => ?_ | refine aSkip ?_ | (first | apply aReg | apply aIf); simp -implicitDefEqProofs only [↓slp, ↓reduceIte, reduceCtorEq, jA, jB, jE, jF, Y0, f0, f1, f6, pI, c1, hAb, hg] | apply hX; clear hX X | intro hlen; unfold maxLen at hlen | apply And.intro; focus omega))
  refine callM (cnext_any a _ (by first | assumption | (rw [ext_nb]; omega)) _) ?_
  rintro v m' ⟨rfl, rfl⟩
  simp -implicitDefEqProofs only [↓slp, ↓reduceIte, reduceCtorEq, jA, jB, jE, jF, Y0, f6, hAb]
  (repeat (first | refine aSeq fun X hX => ?_ | refine aReg ?_; simp -implicitDefEqProofs only [↓slp, ↓reduceIte, reduceCtorEq, jA, jB, jE, jF, Y0, f0, hAb]; try simp only [fo] | apply hX; clear hX X))
  refine callM (cexpr_any x.e hv a _ (by rw [ext_nb]; omega) _) ?_
  rintro v m' ⟨rfl, rfl⟩
  have hpl : plT x P.2 = (⟨(plE x.e (nxt P.2)).1, x.to, x.resume, nxt P.2, 1⟩, (plE x.e (nxt P.2)).2) := rfl
  generalize plE x.e (nxt P.2) = q at *
  have hfree := ho.free
  have q1 : P.1.length + 1 ≤ maxLen := by unfold maxLen; omega
  have q3 := trs_len P.1
  simp -implicitDefEqProofs only [↓slp, ↓reduceIte, reduceCtorEq, jA, jB, jE, jF, Y0, f6, hAb]; try simp only [fo]
  (repeat (first | refine aReg ?_; simp -implicitDefEqProofs only [forall_eq, ↓slp, ↓reduceIte, jA, jB, jC, jE, jF, Y0, f5, f6, hAb, pI, hi] | apply hX; clear hX X | apply And.intro; focus ((repeat' apply And.intro) <;> first | omega | assumption)))
  rw [hI]
  exact ⟨⟨k + 1, .tok mb.nt, _, hlt, f0, f1, by rw [hsn, hpl, List.map_append]; rfl, rfl, by rw [hsn, hpl], (hB.fresh ho).ext _, (Mine.newB hB o 12).ext _⟩, by omega⟩
 | false =>
  have hk' : k = l.length := by simp at c1; omega
  subst hk'
  rw [List.take_length] at f5
  rw [List.take_length]
  (repeat (first | refine aSeq fun X hX => ?_ | (first | refine aExit ?_ | refine aRet ?_); try simp only [slx, ↓reduceIte, jA, reduceCtorEq] | (first | apply aReg | apply aIf); simp -implicitDefEqProofs only [↓slp, ↓reduceIte, jA, jF, Y0, f1, f5, f6, pI, c1] | apply hX; clear hX X | clear hX X; apply hX; clear hX X | intro hlen; unfold maxLen at hlen))
  simp only [aPost, Try.results106, aRes_n, aRes_t, aRes_c, pack_one, pack_two]
  exact leave_cntB hA hB rfl ⟨rfl, rfl⟩
end Go.Proofs.Ytibhhoknipdlpaa
