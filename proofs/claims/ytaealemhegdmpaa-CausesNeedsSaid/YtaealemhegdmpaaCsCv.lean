/-
 slices.Concat of lists of variables.
-/
-- halved
import Derived.Test.YtaealemhegdmpaaCgF
import Derived.Test.YtaealemhegdmpaaSlcX
set_option linter.unusedVariables false
set_option linter.unusedSimpArgs false
namespace Go.Proofs.Ytaealemhegdmpaa
open Nat renaming reduceEqDiff → jA, reduceAdd → jB, reduceMul → jC, reduceLT → jD, reduceLeDiff → jE, reduceBEq → jF, reduceBNe → jG
open Int renaming reduceLE → jH, reduceLT → jI, reduceToNat → jJ, reduceEq → jK
open Go
set_option maxRecDepth 20000
-- TNAMES: int; uint8; int32; string; bool; []string; []api.Expr; api.Expr; api.Pos; api.Type; api.On; []api.On; api.Var; []api.Var; [][]api.Var


theorem va_lenC (l : List Va) : ∀ x ∈ l.map Va.pv, x.cells.length = 15 := fun x hx => by
 obtain ⟨s, _, rfl⟩ := List.mem_map.1 hx; rfl
def pLV (l : List Va) : PV := .sl .no (l.map Va.pv)
theorem lists_lenV {α : Type} (l : List (List α)) (k : Nat) : (l.take k).flatten.length ≤ l.flatten.length := by
 conv => rhs; rw [← List.take_append_drop k l, List.flatten_append, List.length_append]
 omega
set_option maxHeartbeats 2000000 in
theorem concatV_any (o : Own) (ls : List (List Va)) (m : M) (hb : ls.flatten.length < 2 ^ 30) : ACalls Try.prog 22 [.sl o (ls.map pLV)] m (fun v m' => v = .sl .no (ls.flatten.map Va.pv) ∧ m' = m) := by
 obtain ⟨d, hd, hd1, hd2⟩ : ∃ d : TD, tdat Try.prog 85 = some d ∧ d.sz = 15 ∧ d.by_ ≤ 400 := ⟨(tdat Try.prog 85).get (by kernel_rfl), (Option.some_get _).symm, by kernel_rfl, of_decide_eq_true (by kernel_rfl)⟩
 refine ACalls.enter (mu := []) ok_mix Try.func22 rfl (by kernel_rfl) (by kernel_rfl) (by simp only [List.length_cons, List.length_nil, Try.ntmps22]; omega) ?_
 (repeat (first | refine aSeq fun X hX => ?_ | refine aBlk ?_ | refine aReg ?_; simp -implicitDefEqProofs only [↓slp, ↓reduceIte, reduceCtorEq, Y0] | apply hX; clear hX X | intro hlen; unfold maxLen at hlen))
 obtain ⟨I, hI⟩ : ∃ I : F → M → Prop, ∀ f m', I f m' = (∃ k : Nat, k ≤ ls.length ∧ f 0 = .sl o (ls.map pLV) ∧ f 3 = pI (ls.take k).flatten.length ∧ f 9 = .sl o (ls.map pLV) ∧ f 10 = pI ls.length ∧ f 11 = pI k ∧ m = m') := ⟨_, fun _ _ => rfl⟩
 refine aLoop I (fun f m => ls.length - numOf (f 11)) ?_ ?_
 ·rw [hI]; exact ⟨0, by omega, rfl, rfl, rfl, rfl, rfl, rfl⟩
 intro f m' hrel
 rw [hI] at hrel
 obtain ⟨k, hk, h0, h3, h9, h10, h11, rfl⟩ := hrel
 cases c1 : decide ((k : Int) < (ls.length : Int)) with
 | true =>
  have hlt : k < ls.length := by simpa using c1
  have hg := getD_map pLV ls k hlt
  have hi : IntKind.i64.wrap ((k : Int) + 1) = ((k + 1 : Nat) : Int) := by rw [wrap64 (by omega)]; omega
  have hme : numOf (f 11) = k := by rw [h11]; exact Int.toNat_natCast k
  have hst : (ls.take (k + 1)).flatten.length = (ls.take k).flatten.length + ls[k].length := by rw [List.take_succ_eq_append_getElem hlt, List.flatten_append, List.length_append]; simp
  have hl2 := lists_lenV ls (k + 1)
  have hw : IntKind.i64.wrap (((ls.take k).flatten.length : Int) + (ls[k].length : Int)) = (((ls.take (k + 1)).flatten.length : Nat) : Int) := by rw [wrap64 (by omega), hst]; omega
  have c2 : decide ((((ls.take (k + 1)).flatten.length : Nat) : Int) < 0) = false := by simp
  (repeat (first | refine aSeq fun X hX => ?_ | refine aReg ?_; simp -implicitDefEqProofs only [↓slp, slb, ↓reduceIte, h10, h11, pI, c1] | apply hX; clear hX X))
  refine aIf ?_; simp -implicitDefEqProofs only [slb, ↓reduceIte, reduceCtorEq]
  (repeat (first | refine aSeq fun X hX => ?_ | refine aSkip ?_ | refine aReg ?_; simp -implicitDefEqProofs only [↓slp, ↓reduceIte, jA, jB, Y0, h3, h9, h11, pI, hg, pLV, hw, c2] | apply hX; clear hX X | intro hlen; unfold maxLen at hlen | apply And.intro; focus omega))
  refine aIf ?_; simp -implicitDefEqProofs only [slb, ↓reduceIte]
  (repeat (first | refine aSkip ?_ | refine aReg ?_; simp -implicitDefEqProofs only [↓slp, slb, ↓reduceIte, jA, h11, pI, hi] | apply hX; clear hX X))
  rw [hI]
  exact ⟨⟨k + 1, hlt, h0, rfl, h9, h10, rfl, rfl⟩, by omega⟩
 | false =>
 obtain rfl : k = ls.length := by simp at c1; omega
 rw [List.take_length] at h3
 have hgr := grow_41 ls.flatten.length m d hd (by omega) (by omega) (by have := Nat.mul_le_mul (Nat.le_of_lt hb) hd2; omega)
 rw [hd1] at hgr
 (repeat (first | refine aSeq fun X hX => ?_ | refine aReg ?_; simp -implicitDefEqProofs only [↓slp, slb, ↓reduceIte, h10, h11, pI, c1] | apply hX; clear hX X))
 refine aIf ?_; simp -implicitDefEqProofs only [slb, ↓reduceIte]
 (repeat (first | refine aSeq fun X hX => ?_ | refine aExit ?_; try simp only [slx, ↓reduceIte, jA, reduceCtorEq] | refine aReg ?_; simp -implicitDefEqProofs only [↓slp, ↓reduceIte, jA, Y0, h3, pI] | clear hX X; apply hX; clear hX X))
 refine callM hgr ?_
 rintro v m' ⟨rfl, rfl⟩
 simp -implicitDefEqProofs only [↓slp, slb, ↓reduceIte]
 (repeat (first | refine aSeq fun X hX => ?_ | refine aBlk ?_ | refine aReg ?_; simp -implicitDefEqProofs only [↓slp, ↓reduceIte, reduceCtorEq, Y0, h0] | apply hX; clear hX X | intro hlen; unfold maxLen at hlen))
 clear I hI h3 h9 h10 h11
 obtain ⟨I, hI⟩ : ∃ I : F → M → Prop, ∀ f m', I f m' = (∃ (k : Nat) (o2 : Own), k ≤ ls.length ∧ f 6 = .sl o2 ((ls.take k).flatten.map Va.pv) ∧ f 25 = .sl o (ls.map pLV) ∧ f 26 = pI ls.length ∧ f 27 = pI k ∧ Toks m m' ∧ Mine m m' o2 15) := ⟨_, fun _ _ => rfl⟩
 refine aLoop I (fun f m => ls.length - numOf (f 27)) ?_ ?_
 ·rw [hI]; exact ⟨0, .tok m.nt, by omega, rfl, rfl, rfl, rfl, (Toks.refl m).use (o := .full) (s := 15) (s' := 15) Mine.full, Mine.new (o := .full) (Toks.refl m) 15⟩
 intro f m' hrel
 rw [hI] at hrel
 obtain ⟨k, o2, hk, h6, h25, h26, h27, ht, hm⟩ := hrel
 cases c1 : decide ((k : Int) < (ls.length : Int)) with
 | true =>
  have hlt : k < ls.length := by simpa using c1
  have hg := getD_map pLV ls k hlt
  have hi : IntKind.i64.wrap ((k : Int) + 1) = ((k + 1 : Nat) : Int) := by rw [wrap64 (by omega)]; omega
  have hme : numOf (f 27) = k := by rw [h27]; exact Int.toNat_natCast k
  have hst : (ls.take (k + 1)).flatten = (ls.take k).flatten ++ ls[k] := by rw [List.take_succ_eq_append_getElem hlt, List.flatten_append]; simp
  have hl2 := lists_lenV ls (k + 1)
  have hl3 : (ls.take (k + 1)).flatten.length = (ls.take k).flatten.length + ls[k].length := by rw [hst, List.length_append]
  have hfree := hm.free
  have q1 : (ls.take k).flatten.length + ls[k].length ≤ maxLen := by unfold maxLen; omega
  have q3 := va_lenC (ls.take k).flatten
  have q4 := va_lenC ls[k]
  (repeat (first | refine aSeq fun X hX => ?_ | refine aReg ?_; simp -implicitDefEqProofs only [↓slp, slb, ↓reduceIte, h26, h27, pI, c1] | apply hX; clear hX X))
  refine aIf ?_; simp -implicitDefEqProofs only [slb, ↓reduceIte, reduceCtorEq]
  (repeat (first | refine aSeq fun X hX => ?_ | refine aSkip ?_ | refine aReg ?_; simp -implicitDefEqProofs only [↓slp, ↓reduceIte, jA, jB, Y0, h6, h25, h27, pI, hg, pLV, hi] | apply hX; clear hX X | apply And.intro; focus (first | omega | (repeat' apply And.intro) <;> first | omega | assumption)))
  rw [hI]
  exact ⟨⟨k + 1, .tok m'.nt, hlt, by rw [hst, List.map_append]; rfl, h25, h26, rfl, ht.use hm, Mine.new ht o2 15⟩, by omega⟩
 | false =>
  obtain rfl : k = ls.length := by simp at c1; omega
  rw [List.take_length] at h6
  (repeat (first | refine aSeq fun X hX => ?_ | refine aReg ?_; simp -implicitDefEqProofs only [↓slp, slb, ↓reduceIte, h26, h27, pI, c1] | apply hX; clear hX X))
  refine aIf ?_; simp -implicitDefEqProofs only [slb, ↓reduceIte]
  (repeat (first | refine aSeq fun X hX => ?_ | (first | refine aExit ?_ | refine aRet ?_); try simp only [slx, ↓reduceIte, jA, reduceCtorEq] | refine aReg ?_; simp -implicitDefEqProofs only [↓slp, slb, ↓reduceIte, jA, h6] | apply hX; clear hX X | clear hX X; apply hX; clear hX X))
  simp only [aPost, Try.results22, aRes_n, aRes_t, aRes_c, pack_one, pack_two]
  exact leave_toks0 ht rfl ⟨rfl, rfl⟩
end Go.Proofs.Ytaealemhegdmpaa
