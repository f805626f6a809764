/-
 Texts that belong together: TeQ, TeR, TeS.
-/
-- halved
import Derived.Test.YthhhnfjcaicjnaaGreatDoorQA
import Derived.Test.YthhhnfjcaicjnaaGreatDoorTeD
import Derived.Test.YthhhnfjcaicjnaaGreatDoorAbMac
import Derived.Test.YthhhnfjcaicjnaaGreatDoorTaA
set_option linter.unusedVariables false
set_option linter.unusedSimpArgs false
namespace Go.Proofs.YthhhnfjcaicjnaaGreatDoor
open Go

abbrev lN (p : List En × List No) (n : Bool × Int × Int) : List PV := [.sl .no (p.1.map En.pv), .sl .no (p.2.map No.pv), .v (.bool n.1), .v (.int .i64 n.2.1), .v (.int .i64 n.2.2)]
def lst (p : List En × List No) (a : Nat) (m : M) (n : Bool × Int × Int) : M := m.upd a (lN p n)
section
variable {p : List En × List No} {a : Nat} {m : M} {n : Bool × Int × Int}
theorem lst_nb : (lst p a m n).nb = m.nb := by simp [lst, upd_nb]
theorem lst_nt : (lst p a m n).nt = m.nt := rfl
theorem lst_fresh (s : Nat) : (lst p a m n).fresh s = lst p a (m.fresh s) n := rfl
theorem lst_use (o : Own) : o.use (lst p a m n) = lst p a (o.use m) n := by cases o <;> rfl
theorem lst_free (o : Own) (s : Nat) : o.free (lst p a m n) s = o.free m s := by cases o <;> rfl
theorem lst_alive (t s : Nat) : (lst p a m n).alive t s = m.alive t s := rfl
theorem lst_a (hA : a < m.nb) : (lst p a m n).get a = some [.sl .no (p.1.map En.pv), .sl .no (p.2.map No.pv), .v (.bool n.1), .v (.int .i64 n.2.1), .v (.int .i64 n.2.2)] := by
 unfold lst
 rw [M.get_upd, if_pos ⟨rfl, hA⟩]
theorem lst_upda (x : Bool) (y z : Int) : (lst p a m n).upd a [PV.sl Own.no (List.map En.pv p.1), PV.sl Own.no (List.map No.pv p.2), PV.v (Value.bool x), PV.v (Value.int IntKind.i64 y), PV.v (Value.int IntKind.i64 z)] = lst p a m (x, y, z) := by
 unfold lst M.upd
 congr 1
 simp only []
 rw [List.set_set]
theorem lst_ext (bs : List (Option (List PV))) (hA : a < m.nb) : (lst p a m n).ext bs = lst p a (m.ext bs) n := by
 unfold lst
 rw [ext_updOld hA]
theorem lst_ext2 (bs cs : List (Option (List PV))) (hA : a < m.nb) : (lst p a (m.ext bs) n).ext cs = lst p a (m.ext (bs ++ cs)) n := by
 rw [lst_ext cs (by rw [ext_nb]; omega), ext_ext]
theorem lst_ea (bs : List (Option (List PV))) (hA : a < m.nb) : (lst p a (m.ext bs) n).get a = some [.sl .no (p.1.map En.pv), .sl .no (p.2.map No.pv), .v (.bool n.1), .v (.int .i64 n.2.1), .v (.int .i64 n.2.2)] := lst_a (by rw [ext_nb]; omega)
theorem lst_own {bs : List (Option (List PV))} {k j : Nat} (h : m.nb = k) (hA : a < m.nb) : (lst p a (m.ext bs) n).get (k + j) = (bs[j]?).join := by
 rw [← ext_get (bs := bs) (i := j) h]
 unfold lst
 rw [M.get_upd, if_neg (fun h' => by have := h'.1; omega)]
theorem lst_own0 {bs : List (Option (List PV))} {k : Nat} (h : m.nb = k) (hA : a < m.nb) : (lst p a (m.ext bs) n).get k = (bs[0]?).join := lst_own (j := 0) h hA
theorem lst_ou {bs : List (Option (List PV))} {k j : Nat} {c : List PV} (h : m.nb = k) (hA : a < m.nb) : (lst p a (m.ext bs) n).upd (k + j) c = lst p a (m.ext (bs.set j (some c))) n := by
 rw [← ext_upd (i := j) h]
 unfold lst M.upd
 congr 1
 simp only []
 rw [List.set_comm _ _ (show a ≠ k + j by omega)]
theorem lst_ou0 {bs : List (Option (List PV))} {k : Nat} {c : List PV} (h : m.nb = k) (hA : a < m.nb) : (lst p a (m.ext bs) n).upd k c = lst p a (m.ext (bs.set 0 (some c))) n := lst_ou (j := 0) h hA
end
theorem lst_boxes {p : List En × List No} {a : Nat} {m mm : M} (h : mm.boxes = m.boxes) (n : Bool × Int × Int) : (lst p a mm n).boxes = (lst p a m n).boxes := by
 unfold lst M.upd
 simp only [h]
theorem leave_lst {p : List En × List No} {a : Nat} {m mm : M} {bs : List (Option (List PV))} {n n' : Bool × Int × Int} {v : PV} {R : PV → M → Prop} (hA : a < m.nb) (ht : Toks m mm) (hv : v.settle.pure = true) (hR : R v.settle (lst p a m n')) :
    ∃ v' m', Leave (lst p a m n) (lst p a (mm.ext bs) n') v v' m' ∧ R v' m' := by
 rw [← lst_ext bs (by rw [ht.nb]; exact hA)]
 refine ⟨_, _, .gen v v.settle (lst p a m n') (.inr rfl) (by rw [lst_nb, lst_nb]; exact Nat.le_refl _) (by rw [lst_nt, lst_nt]; exact Nat.le_refl _) ?_ ?_ (fun id c hc => ?_) (pure_withinC _ _ _ hv), hR⟩
 ·show ((lst p a mm n').boxes ++ bs).take (lst p a m n').boxes.length = _
  rw [lst_boxes ht.boxes]
  simp
 ·exact ht.toks
 ·unfold lst at hc
  rw [M.get_upd] at hc
  split at hc
  ·cases hc
   exact .inr (by simp [PV.withins, PV.within])
  ·rename_i h1
   refine .inl ?_
   unfold lst
   rw [M.get_upd, if_neg h1]
   exact hc
theorem leave_lst0 {p : List En × List No} {a : Nat} {m mm : M} {n n' : Bool × Int × Int} {v : PV} {R : PV → M → Prop} (hA : a < m.nb) (ht : Toks m mm) (hv : v.settle.pure = true) (hR : R v.settle (lst p a m n')) :
    ∃ v' m', Leave (lst p a m n) (lst p a mm n') v v' m' ∧ R v' m' := by
 have := leave_lst (bs := []) (n := n) (R := R) hA ht hv hR
 rwa [show mm.ext [] = mm by simp [M.ext]] at this

open Nat renaming reduceEqDiff → jA, reduceAdd → jB, reduceMul → jC, reduceLT → jD, reduceLeDiff → jE, reduceBEq → jF, reduceBNe → jG
open Int renaming reduceLE → jH, reduceLT → jI, reduceToNat → jJ, reduceEq → jK
set_option maxRecDepth 20000
set_option linter.defProp false
def tfTeR := And.intro @tfA (And.intro @Ex.settle_pv (And.intro @Ex.pure_pv (And.intro @Ex.cells_pv (And.intro @Ex.cs.eq_1 (And.intro @On.pv.eq_1 (And.intro @Ty.pv.eq_1 (And.intro @Va.settle_pv (And.intro @Va.pure_pv (And.intro @Va.cells_pv (And.intro @Va.cs.eq_1 (And.intro @En.settle_pv (And.intro @En.pure_pv (And.intro @En.cells_pv (And.intro @En.cs.eq_1 (And.intro @lst_nb (And.intro @lst_nt (And.intro @lst_fresh (And.intro @lst_use (And.intro @lst_free (And.intro @lst_alive (And.intro @lst_a (And.intro @lst_upda (And.intro @lst_ext (And.intro @lst_ext2 (And.intro @lst_ea (And.intro @lst_own (And.intro @lst_own0 (And.intro @lst_ou @lst_ou0))))))))))))))))))))))))))))

set_option maxHeartbeats 1000000 in
theorem rFind_any (o : Own) (l : List Va) (s : Str) (m : M) : ACalls Tryz.prog 60 [.sl o (l.map Va.pv), pS s] m (fun v m' => v = pI (findVar l s) ∧ m' = m) := by
 refine eN [] Tryz.func60 ?_
 (repeat revert X); refine wW aEQ_t ?_; repeat intro X hX
 obtain ⟨I, hI⟩ : ∃ I : F → M → Prop, ∀ f m', I f m' = (∃ k : Nat, k ≤ l.length ∧ f 0 = .sl o (l.map Va.pv) ∧ f 1 = pS s ∧ f 5 = pI k ∧ findVar l s = idxF (fun e : Va => eqS e.name s) (l.drop k) k ∧ m' = m) := ⟨_, fun _ _ => rfl⟩
 refine aLoop I (fun f m => l.length - numOf (f 5)) ?_ ?_
 ·rw [hI]; exact ⟨0, by omega, rfl, rfl, rfl, rfl, rfl⟩
 intro f m' hrel
 rw [hI] at hrel
 obtain ⟨k, hk, h0, h1, h5, hs, rfl⟩ := hrel
 (repeat (first | refine aSeq fun X hX => ?_ | refine aReg ?_; simp -implicitDefEqProofs only [↓slp, slb, ↓reduceIte, reduceCtorEq, jA, tfTeR, h0, h5, pI] | apply hX; clear hX X | intro hlen; unfold maxLen at hlen))
 cases c0 : decide ((k : Int) < (l.length : Int)) with
 | true =>
  have hlt : k < l.length := by simpa using c0
  have g0 := getD_map Va.pv l k hlt
  have hi : IntKind.i64.wrap ((k : Int) + 1) = ((k + 1 : Nat) : Int) := by rw [wrap64 (by omega)]; omega
  have hme : numOf (f 5) = k := by rw [h5]; exact Int.toNat_natCast k
  have hd := idxF_drop (p := fun e : Va => eqS e.name s) hlt
  cases c1 : (l[k].name.toList == s.toList) with
  | true =>
   have c2 : eqS l[k].name s = true := c1
   (repeat (first | refine aSeq fun X hX => ?_ | refine aSkip ?_ | refine aRet ?_; try simp only [slx, ↓reduceIte, jA, reduceCtorEq] | (first | apply aReg | apply aIf); simp -implicitDefEqProofs only [↓slp, slb, ↓reduceIte, reduceCtorEq, jA, jB, jE, tfTeR, h0, h1, h5, pI, pS, g0, c1] | apply hX; clear hX X | apply And.intro; focus omega))
   simp only [aPost, Tryz.results60, aRes_n, aRes_t, aRes_c, pack_one, pack_two]
   have hv : findVar l s = (k : Int) := by rw [hs, hd]; simp [c2]
   exact leave_same rfl ⟨by rw [hv]; rfl, rfl⟩
  | false =>
   have c2 : eqS l[k].name s = false := c1
   (repeat (first | refine aSeq fun X hX => ?_ | refine aSkip ?_ | (first | apply aReg | apply aIf); simp -implicitDefEqProofs only [↓slp, slb, ↓reduceIte, reduceCtorEq, jA, jB, jE, tfTeR, h0, h1, h5, pI, pS, g0, c1, hi] | apply hX; clear hX X | apply And.intro; focus omega))
   rw [hI]
   exact ⟨⟨k + 1, hlt, h0, h1, rfl, by rw [hs, hd]; simp [c2], rfl⟩, by omega⟩
 | false =>
  have hkk : k = l.length := by simp at c0; omega
  subst hkk
  (repeat revert X); refine wD (And.intro h5 @pI.eq_1) ?_; repeat intro X hX
  refine wR Tryz.results60 ?_
  have hv : findVar l s = -1 := by rw [hs]; simp [idxF]
  exact leave_same rfl ⟨by rw [hv]; rfl, rfl⟩
set_option maxHeartbeats 1000000 in
theorem rIndex_any (o : Own) (l : List Str) (s : Str) (m : M) : ACalls Tryz.prog 65 [.sl o (l.map pS), pS s] m (fun v m' => v = pI (idxF (fun x => eqS x s) l 0) ∧ m' = m) := by
 refine eN [] Tryz.func65 ?_
 (repeat revert X); refine wW aEQ_t ?_; repeat intro X hX
 obtain ⟨I, hI⟩ : ∃ I : F → M → Prop, ∀ f m', I f m' = (∃ k : Nat, k ≤ l.length ∧ f 0 = .sl o (l.map pS) ∧ f 1 = pS s ∧ f 5 = pI k ∧ idxF (fun x => eqS x s) l 0 = idxF (fun x => eqS x s) (l.drop k) k ∧ m' = m) := ⟨_, fun _ _ => rfl⟩
 refine aLoop I (fun f m => l.length - numOf (f 5)) ?_ ?_
 ·rw [hI]; exact ⟨0, by omega, rfl, rfl, rfl, rfl, rfl⟩
 intro f m' hrel
 rw [hI] at hrel
 obtain ⟨k, hk, h0, h1, h5, hs, rfl⟩ := hrel
 (repeat (first | refine aSeq fun X hX => ?_ | refine aReg ?_; simp -implicitDefEqProofs only [↓slp, slb, ↓reduceIte, reduceCtorEq, jA, tfTeR, h0, h5, pI] | apply hX; clear hX X | intro hlen; unfold maxLen at hlen))
 cases c0 : decide ((k : Int) < (l.length : Int)) with
 | true =>
  have hlt : k < l.length := by simpa using c0
  have g0 := getD_map pS l k hlt
  have hi : IntKind.i64.wrap ((k : Int) + 1) = ((k + 1 : Nat) : Int) := by rw [wrap64 (by omega)]; omega
  have hme : numOf (f 5) = k := by rw [h5]; exact Int.toNat_natCast k
  have hd := idxF_drop (p := fun x => eqS x s) hlt
  cases c1 : (l[k].toList == s.toList) with
  | true =>
   have c2 : eqS l[k] s = true := c1
   (repeat (first | refine aSeq fun X hX => ?_ | refine aSkip ?_ | refine aRet ?_; try simp only [slx, ↓reduceIte, jA, reduceCtorEq] | (first | apply aReg | apply aIf); simp -implicitDefEqProofs only [↓slp, slb, ↓reduceIte, reduceCtorEq, jA, jB, tfTeR, h0, h1, h5, pI, pS, g0, c1] | apply hX; clear hX X | apply And.intro; focus omega))
   simp only [aPost, Tryz.results65, aRes_n, aRes_t, aRes_c, pack_one, pack_two]
   have hv : idxF (fun x => eqS x s) l 0 = (k : Int) := by rw [hs, hd]; simp [c2]
   exact leave_same rfl ⟨by rw [hv]; rfl, rfl⟩
  | false =>
   have c2 : eqS l[k] s = false := c1
   (repeat (first | refine aSeq fun X hX => ?_ | refine aSkip ?_ | (first | apply aReg | apply aIf); simp -implicitDefEqProofs only [↓slp, slb, ↓reduceIte, reduceCtorEq, jA, jB, tfTeR, h0, h1, h5, pI, pS, g0, c1, hi] | apply hX; clear hX X | apply And.intro; focus omega))
   rw [hI]
   exact ⟨⟨k + 1, hlt, h0, h1, rfl, by rw [hs, hd]; simp [c2], rfl⟩, by omega⟩
 | false =>
  have hkk : k = l.length := by simp at c0; omega
  subst hkk
  (repeat revert X); refine wD (And.intro h5 @pI.eq_1) ?_; repeat intro X hX
  refine wR Tryz.results65 ?_
  have hv : idxF (fun x => eqS x s) l 0 = -1 := by rw [hs]; simp [idxF]
  exact leave_same rfl ⟨by rw [hv]; rfl, rfl⟩
theorem idx_has (l : List Str) (s : Str) : decide (idxF (fun x => eqS x s) l 0 < 0) = !hasS l s := by
 cases h : hasS l s with
 | true =>
  have hm := (hasS_iff s l).1 h
  rcases idxF_at (p := fun x => eqS x s) l 0 with ⟨_, h2⟩ | ⟨k, _, h1, _⟩
  ·have := h2 s hm; simp [eqS] at this
  ·simp; omega
 | false =>
  rcases idxF_at (p := fun x => eqS x s) l 0 with ⟨h1, _⟩ | ⟨k, hk, _, h2, _⟩
  ·simp [h1]
  ·have : hasS l s = true := (hasS_iff s l).2 (by rw [← eqS_iff.1 h2]; exact List.getElem_mem hk)
   rw [this] at h; cases h
theorem idx_hasG (l : List Str) (s : Str) : decide (idxF (fun x => eqS x s) l 0 ≥ 0) = hasS l s := by
 have := idx_has l s
 cases h : hasS l s <;> simp [h] at this ⊢ <;> omega
set_option maxHeartbeats 1000000 in
theorem rof_any (V : List Va) (s : Str) (h : ¬ findVar V s < 0) (m : M) : ACalls Tryz.prog 63 [.sl .no (V.map Va.pv), pS s] m (fun v m' => v = (tyOf V s).pv ∧ m' = m) := by
 have h1 : findVar V s < (V.length : Int) := idxF_lt V
 obtain ⟨k, hk⟩ : ∃ k : Nat, findVar V s = (k : Int) := ⟨(findVar V s).toNat, by omega⟩
 have hlt : k < V.length := by omega
 have g0 := getD_map Va.pv V k hlt
 have hx := fun m => rFind_any .no V s m
 rw [hk] at hx
 have ht : tyOf V s = V[k].t := by
  unfold tyOf
  rw [hk, Int.toNat_natCast, List.getD_eq_getElem?_getD, List.getElem?_eq_getElem hlt]; rfl
 rw [ht]
 have c0 : decide ((k : Int) < 0) = false := by simp
 refine eN [4] Tryz.func63 ?_
 (repeat revert X); refine wD tfTeR ?_; repeat intro X hX
 refine callE (hx _) ?_
 refine wS (And.intro tfTeR @pI.eq_1) ?_
 (repeat revert X); refine wD (And.intro tfTeR (And.intro g0 (And.intro hlt c0))) ?_; repeat intro X hX
 refine wQ Tryz.results63 tfTeR ?_
 exact leave_ext rfl ⟨rfl, rfl⟩
set_option maxHeartbeats 4000000 in
theorem rtypes_any {o : Int} (h1 : 1 ≤ o) (h2 : o ≤ 16) (m : M) : ACalls Tryz.prog 64 [.v (.int .u8 o)] m (fun v m' => v = .tp [.v (.int .u8 (opIn o)), .v (.int .u8 (opOut o))] ∧ m' = m) := by
 have : o = 1 ∨ o = 2 ∨ o = 3 ∨ o = 4 ∨ o = 5 ∨ o = 6 ∨ o = 7 ∨ o = 8 ∨ o = 9 ∨ o = 10 ∨ o = 11 ∨ o = 12 ∨ o = 13 ∨ o = 14 ∨ o = 15 ∨ o = 16 := by omega
 rcases this with rfl | rfl | rfl | rfl | rfl | rfl | rfl | rfl | rfl | rfl | rfl | rfl | rfl | rfl | rfl | rfl <;> (
  refine eN [] Tryz.func64 ?_
  (repeat (first | refine aSeq fun X hX => ?_ | refine aRet ?_; try simp only [slx, ↓reduceIte, jA, reduceCtorEq] | (first | apply aReg | apply aIf); simp -implicitDefEqProofs only [↓slp, slb, ↓reduceIte, reduceCtorEq, jA, jH, Int.reduceBEq, Int.reduceLE, ge_iff_le] | apply hX; clear hX X))
  refine wR Tryz.results64 ?_
  exact leave_same rfl ⟨rfl, rfl⟩)
set_option maxHeartbeats 2000000 in
theorem rctors_any (E : List En) (t : Ty) (m : M) : ACalls Tryz.prog 66 [.sl .no (E.map En.pv), t.pv] m (fun v m' => v = .sl .no ((ctorsF E t).map pS) ∧ m' = m) := by
 simp only [Ty.pv]
 refine eN [] Tryz.func66 ?_
 unfold ctorsF
 cases c1 : (t.kind == 1) with
 | true =>
  (repeat revert X); refine wD (And.intro tfTeR c1) ?_; repeat intro X hX
  refine wR Tryz.results66 ?_
  exact leave_same rfl ⟨rfl, rfl⟩
 | false =>
 cases c3 : (t.kind == 3) with
 | false =>
  (repeat revert X); refine wD (And.intro tfTeR (And.intro c1 c3)) ?_; repeat intro X hX
  refine wR Tryz.results66 ?_
  exact leave_same rfl ⟨rfl, rfl⟩
 | true =>
  obtain ⟨R, hR⟩ : ∃ R, (if decide (findEn E t.name ≥ 0) = true then (E.getD (findEn E t.name).toNat enZ).ctors else []) = R := ⟨_, rfl⟩
  (repeat revert X); refine wW (And.intro tfTeR c1) ?_; repeat intro X hX
  (repeat revert X); refine wE (And.intro tfTeR c3) ?_; repeat intro X hX
  obtain ⟨I, hI⟩ : ∃ I : F → M → Prop, ∀ f m', I f m' = (∃ k : Nat, k ≤ E.length ∧ f 0 = .sl .no (E.map En.pv) ∧ f 3 = .ep [.v (.int .u8 t.kind), .v (.string t.name)] ∧ f 5 = pI k ∧ findEn E t.name = idxF (fun e => eqS e.name t.name) (E.drop k) k ∧ m' = m) := ⟨_, fun _ _ => rfl⟩
  refine aLoop I (fun f m => E.length - numOf (f 5)) ?_ ?_
  ·rw [hI]; exact ⟨0, by omega, rfl, rfl, rfl, rfl, rfl⟩
  intro f m' hrel
  rw [hI] at hrel
  obtain ⟨k, hk, h0, h3, h5, hs, rfl⟩ := hrel
  (repeat (first | refine aSeq fun X hX => ?_ | refine aReg ?_; simp -implicitDefEqProofs only [↓slp, slb, ↓reduceIte, reduceCtorEq, jA, tfTeR, h0, h5, pI] | apply hX; clear hX X | intro hlen; unfold maxLen at hlen))
  cases c0 : decide ((k : Int) < (E.length : Int)) with
  | true =>
   have hlt : k < E.length := by simpa using c0
   have g0 := getD_map En.pv E k hlt
   have hi : IntKind.i64.wrap ((k : Int) + 1) = ((k + 1 : Nat) : Int) := by rw [wrap64 (by omega)]; omega
   have hme : numOf (f 5) = k := by rw [h5]; exact Int.toNat_natCast k
   have hd := idxF_drop (p := fun e : En => eqS e.name t.name) hlt
   cases c4 : (E[k].name.toList == t.name.toList) with
   | true =>
    have c2 : eqS E[k].name t.name = true := c4
    have hv : findEn E t.name = (k : Int) := by rw [hs, hd]; simp [c2]
    (repeat revert X); refine wD (And.intro tfTeR (And.intro h0 (And.intro h3 (And.intro h5 (And.intro @pI.eq_1 (And.intro g0 (And.intro c4 hlt))))))) ?_; repeat intro X hX
    refine wQ Tryz.results66 aEQ_t ?_
    refine leave_same rfl ⟨?_, rfl⟩
    rw [hv, Int.toNat_natCast, List.getD_eq_getElem?_getD, List.getElem?_eq_getElem hlt]
    simp
    rfl
   | false =>
    have c2 : eqS E[k].name t.name = false := c4
    (repeat (first | refine aSeq fun X hX => ?_ | refine aSkip ?_ | (first | apply aReg | refine aDrE ?_ | apply aIf); simp -implicitDefEqProofs only [↓slp, slb, ↓reduceIte, reduceCtorEq, jA, jB, jE, tfTeR, h0, h3, h5, pI, g0, c4, hi, hlt] | apply hX; clear hX X))
    rw [hI]
    exact ⟨⟨k + 1, hlt, h0, h3, rfl, by rw [hs, hd]; simp [c2], rfl⟩, by omega⟩
  | false =>
   have hkk : k = E.length := by simp at c0; omega
   subst hkk
   have hv : findEn E t.name = -1 := by rw [hs]; simp [idxF]
   (repeat revert X); refine wD (And.intro tfTeR (And.intro h5 @pI.eq_1)) ?_; repeat intro X hX
   refine wR Tryz.results66 ?_
   refine leave_same rfl ⟨?_, rfl⟩
   rw [hv]
   rfl
def RSt (e : Ex) : Prop := ∀ m : M, ACalls Tryz.prog 67 [e.pv] m (fun v m' => v = pB (stF e) ∧ m' = m)
theorem stsF_drop {l : List Ex} {k : Nat} (h : k < l.length) : stsF (l.drop k) = (stF l[k] && stsF (l.drop (k + 1))) := by rw [List.drop_eq_getElem_cons h, stsF]
set_option maxHeartbeats 2000000 in
theorem rst_any (e : Ex) : RSt e := by
 refine Ex.ind (motive := RSt) (fun e IH => ?_) e
 intro m
 have hst : stF e = (!(e.kind == 9 || e.kind == 10 || e.kind == 11) && stsF e.kids) := by cases e; rw [stF]; rfl
 obtain ⟨R, hR⟩ : ∃ R, stsF e.kids = R := ⟨_, rfl⟩
 rw [hst, hR]
 refine eN [] Tryz.func67 ?_
 cases c9 : (e.kind == 9) with
 | true =>
  (repeat revert X); refine wD (And.intro tfTeR c9) ?_; repeat intro X hX
  refine wR Tryz.results67 ?_
  exact leave_same rfl ⟨rfl, rfl⟩
 | false =>
 cases c10 : (e.kind == 10) with
 | true =>
  (repeat revert X); refine wD (And.intro tfTeR (And.intro c9 c10)) ?_; repeat intro X hX
  refine wR Tryz.results67 ?_
  exact leave_same rfl ⟨rfl, rfl⟩
 | false =>
 cases c11 : (e.kind == 11) with
 | true =>
  (repeat revert X); refine wD (And.intro tfTeR (And.intro c9 (And.intro c10 c11))) ?_; repeat intro X hX
  refine wR Tryz.results67 ?_
  exact leave_same rfl ⟨rfl, rfl⟩
 | false =>
  (repeat revert X); refine wD (And.intro tfTeR (And.intro c9 (And.intro c10 c11))) ?_; repeat intro X hX
  obtain ⟨I, hI⟩ : ∃ I : F → M → Prop, ∀ f m', I f m' = (∃ k : Nat, k ≤ e.kids.length ∧ f 1 = .ep e.cs ∧ f 3 = pI k ∧ stsF (e.kids.drop k) = R ∧ m' = m) := ⟨_, fun _ _ => rfl⟩
  refine aLoop I (fun f m => e.kids.length - numOf (f 3)) ?_ ?_
  ·rw [hI]; exact ⟨0, by omega, rfl, rfl, hR, rfl⟩
  clear hR
  intro f m' hrel
  rw [hI] at hrel
  obtain ⟨k, hk, f1, f3, hR, rfl⟩ := hrel
  (repeat (first | refine aSeq fun X hX => ?_ | refine aReg ?_; simp -implicitDefEqProofs only [↓slp, slb, ↓reduceIte, reduceCtorEq, jA, jB, jE, tfTeR, f1, f3, pI] | apply hX; clear hX X | intro hlen; unfold maxLen at hlen))
  cases c0 : decide ((k : Int) < (e.kids.length : Int)) with
  | true =>
   have hlt : k < e.kids.length := by simpa using c0
   have g0 := getD_map Ex.pv e.kids k hlt
   have hi : IntKind.i64.wrap ((k : Int) + 1) = ((k + 1 : Nat) : Int) := by rw [wrap64 (by omega)]; omega
   have hme : numOf (f 3) = k := by rw [f3]; exact Int.toNat_natCast k
   have hx := IH k hlt
   rw [stsF_drop hlt] at hR
   generalize e.kids[k] = x at *
   cases b1 : stF x with
   | true =>
    rw [b1] at hR
    (repeat (first | refine aSeq fun X hX => ?_ | refine aSkip ?_ | (first | apply aReg | apply aIf); simp -implicitDefEqProofs only [↓slp, slb, ↓reduceIte, reduceCtorEq, jA, jB, jE, tfTeR, f1, f3, pI, g0]; try simp only [fo] | apply hX; clear hX X | apply And.intro; focus omega))
    refine callE (hx _) ?_
    refine wS (And.intro @pB.eq_1 b1) ?_
    (repeat (first | refine aSkip ?_ | (first | apply aReg | apply aIf); simp -implicitDefEqProofs only [↓slp, slb, ↓reduceIte, jA, tfTeR, pB, f3, pI, hi]; try simp only [fo] | apply hX; clear hX X))
    rw [hI]
    exact ⟨⟨k + 1, hlt, f1, rfl, hR, rfl⟩, by omega⟩
   | false =>
    rw [b1] at hR
    (repeat (first | refine aSeq fun X hX => ?_ | refine aSkip ?_ | (first | apply aReg | apply aIf); simp -implicitDefEqProofs only [↓slp, slb, ↓reduceIte, reduceCtorEq, jA, jB, jE, tfTeR, f1, f3, pI, g0]; try simp only [fo] | apply hX; clear hX X | apply And.intro; focus omega))
    refine callE (hx _) ?_
    refine wS (And.intro @pB.eq_1 b1) ?_
    (repeat revert X); refine wD (And.intro tfTeR (And.intro @pB.eq_1 (And.intro f3 @pI.eq_1))) ?_; repeat intro X hX
    refine wR Tryz.results67 ?_
    exact leave_same rfl ⟨by rw [← hR]; rfl, rfl⟩
  | false =>
   have hkk : k = e.kids.length := by simp at c0; omega
   subst hkk
   rw [List.drop_length, stsF] at hR
   (repeat revert X); refine wD (And.intro f3 @pI.eq_1) ?_; repeat intro X hX
   refine wR Tryz.results67 ?_
   exact leave_same rfl ⟨by rw [← hR]; rfl, rfl⟩

def tfTeS := tfTeR

set_option maxHeartbeats 2000000 in
theorem rctorAt_any (E : List En) (s : Str) (m : M) : ACalls Tryz.prog 62 [.sl .no (E.map En.pv), pS s] m (fun v m' => ∃ j : Int, v = .tp [pI (ctorEn E s), pI j] ∧ m' = m) := by
 refine eN [] Tryz.func62 ?_
 (repeat revert X); refine wW aEQ_t ?_; repeat intro X hX
 obtain ⟨I, hI⟩ : ∃ I : F → M → Prop, ∀ f m', I f m' = (∃ k : Nat, k ≤ E.length ∧ f 0 = .sl .no (E.map En.pv) ∧ f 1 = pS s ∧ f 6 = pI k ∧ ctorEn E s = idxF (fun e => hasS e.ctors s) (E.drop k) k ∧ m = m') := ⟨_, fun _ _ => rfl⟩
 refine aLoop I (fun f m => E.length - numOf (f 6)) ?_ ?_
 ·rw [hI]; exact ⟨0, by omega, rfl, rfl, rfl, rfl, rfl⟩
 intro f m' hrel
 rw [hI] at hrel
 obtain ⟨k, hk, h0, h1, h6, hs, rfl⟩ := hrel
 (repeat (first | refine aSeq fun X hX => ?_ | refine aReg ?_; simp -implicitDefEqProofs only [↓slp, slb, ↓reduceIte, reduceCtorEq, jA, tfTeS, h0, h6, pI] | apply hX; clear hX X | intro hlen; unfold maxLen at hlen))
 cases c0 : decide ((k : Int) < (E.length : Int)) with
 | true =>
  have hlt : k < E.length := by simpa using c0
  have g0 := getD_map En.pv E k hlt
  have hi : IntKind.i64.wrap ((k : Int) + 1) = ((k + 1 : Nat) : Int) := by rw [wrap64 (by omega)]; omega
  have hme : numOf (f 6) = k := by rw [h6]; exact Int.toNat_natCast k
  have hd := idxF_drop (p := fun e : En => hasS e.ctors s) hlt
  have hih := idx_has E[k].ctors s
  generalize E[k] = en at *
  obtain ⟨R, hR⟩ : ∃ R, idxF (fun x => eqS x s) en.ctors 0 = R := ⟨_, rfl⟩
  rw [hR] at hih
  (repeat revert X); refine wE (And.intro h6 @pI.eq_1) ?_; repeat intro X hX
  obtain ⟨J, hJ⟩ : ∃ J : F → M → Prop, ∀ f m', J f m' = (∃ j : Nat, j ≤ en.ctors.length ∧ f 0 = .sl .no (E.map En.pv) ∧ f 1 = pS s ∧ f 6 = pI k ∧ f 7 = pI j ∧ R = idxF (fun x => eqS x s) (en.ctors.drop j) j ∧ m = m') := ⟨_, fun _ _ => rfl⟩
  refine aLoop J (fun f m => en.ctors.length - numOf (f 7)) ?_ ?_
  ·rw [hJ]; exact ⟨0, by omega, h0, h1, h6, rfl, hR.symm, rfl⟩
  clear h0 h1 h6 hR
  intro f m' hrel
  rw [hJ] at hrel
  obtain ⟨j, hj, h0, h1, h6, h7, hs2, rfl⟩ := hrel
  (repeat (first | refine aSeq fun X hX => ?_ | refine aReg ?_; simp -implicitDefEqProofs only [↓slp, slb, ↓reduceIte, reduceCtorEq, jA, jB, jE, tfTeS, h0, h6, h7, pI, g0, hlt] | apply hX; clear hX X | intro hlen; unfold maxLen at hlen))
  cases c2 : decide ((j : Int) < (en.ctors.length : Int)) with
  | true =>
   have hltj : j < en.ctors.length := by simpa using c2
   have gj := getD_map pS en.ctors j hltj
   have hij : IntKind.i64.wrap ((j : Int) + 1) = ((j + 1 : Nat) : Int) := by rw [wrap64 (by omega)]; omega
   have hmej : numOf (f 7) = j := by rw [h7]; exact Int.toNat_natCast j
   have hd2 := idxF_drop (p := fun x => eqS x s) hltj
   cases c4 : (en.ctors[j].toList == s.toList) with
   | true =>
    have c5 : eqS en.ctors[j] s = true := c4
    have hv : R = (j : Int) := by rw [hs2, hd2]; simp [c5]
    have hh : hasS en.ctors s = true := by rw [hv] at hih; cases h : hasS en.ctors s <;> simp [h] at hih ⊢; omega
    have hv2 : ctorEn E s = (k : Int) := by rw [hs, hd]; simp [hh]
    (repeat revert X); refine wD (And.intro tfTeS (And.intro h0 (And.intro h1 (And.intro h6 (And.intro h7 (And.intro @pI.eq_1 (And.intro @pS.eq_1 (And.intro g0 (And.intro gj (And.intro c4 (And.intro hlt hltj))))))))))) ?_; repeat intro X hX
    refine wR Tryz.results62 ?_
    exact leave_same rfl ⟨j, by rw [hv2]; rfl, rfl⟩
   | false =>
    have c5 : eqS en.ctors[j] s = false := c4
    (repeat (first | refine aSeq fun X hX => ?_ | refine aSkip ?_ | (first | apply aReg | apply aIf); simp -implicitDefEqProofs only [↓slp, slb, ↓reduceIte, reduceCtorEq, jA, jB, jE, tfTeS, h0, h1, h6, h7, pI, pS, g0, gj, c4, hlt, hltj, hij] | apply hX; clear hX X))
    rw [hJ]
    exact ⟨⟨j + 1, hltj, h0, h1, h6, rfl, by rw [hs2, hd2]; simp [c5], rfl⟩, by omega⟩
  | false =>
   have hjj : j = en.ctors.length := by simp at c2; omega
   subst hjj
   have hv : R = -1 := by rw [hs2]; simp [idxF]
   have hh : hasS en.ctors s = false := by rw [hv] at hih; simpa using hih.symm
   (repeat (first | refine aExit ?_; try simp only [slx, ↓reduceIte, jA, reduceCtorEq] | (first | apply aReg | apply aIf); simp -implicitDefEqProofs only [↓slp, slb, ↓reduceIte, jA, h6, h7, pI, hi] | clear hX X; apply hX; clear hX X))
   rw [hI]
   exact ⟨⟨k + 1, hlt, h0, h1, rfl, by rw [hs, hd]; simp [hh], rfl⟩, by have : numOf (pI ((k + 1 : Nat) : Int)) = k + 1 := Int.toNat_natCast _; first | omega | (show E.length - numOf (pI ((k + 1 : Nat) : Int)) < _; omega)⟩
 | false =>
  have hkk : k = E.length := by simp at c0; omega
  subst hkk
  have hv : ctorEn E s = -1 := by rw [hs]; simp [idxF]
  (repeat revert X); refine wD (And.intro h6 @pI.eq_1) ?_; repeat intro X hX
  refine wR Tryz.results62 ?_
  exact leave_same rfl ⟨-1, by rw [hv]; rfl, rfl⟩
def failS (s : Bool × Int × Int) (l c : Int) : Bool × Int × Int := if s.1 then s else (true, l, c)
set_option maxHeartbeats 2000000 in
theorem lfail_any (p : List En × List No) (a : Nat) (m : M) (hA : a < m.nb) (s : Bool × Int × Int) (l c : Int) : ACalls Tryz.prog 61 [.bp a 0, pP l c] (lst p a m s) (fun v m' => v = .tp [] ∧ m' = lst p a m (failS s l c)) := by
 obtain ⟨b, l0, c0⟩ := s
 refine eN [] Tryz.func61 ?_
 cases b with
 | true =>
  (repeat revert X); refine wD (And.intro tfTeS hA) ?_; repeat intro X hX
  refine wR Tryz.results61 ?_
  exact leave_lst0 hA (.refl m) rfl ⟨rfl, rfl⟩
 | false =>
  (repeat revert X); refine wD (And.intro tfTeS hA) ?_; repeat intro X hX
  refine wR Tryz.results61 ?_
  exact leave_lst0 hA (.refl m) rfl ⟨rfl, rfl⟩
end Go.Proofs.YthhhnfjcaicjnaaGreatDoor
