/-
 Texts that belong together: TeC, TeE, TeF.
-/
-- halved
import Derived.Test.YthhhnfjcaicjnaaGreatDoorTaA
import Derived.Test.YthhhnfjcaicjnaaGreatDoorAbMac
import Derived.Test.YthhhnfjcaicjnaaGreatDoorLpA
import Derived.Test.YthhhnfjcaicjnaaGreatDoorRnA
import Derived.Test.YthhhnfjcaicjnaaGreatDoorFkA
set_option linter.unusedVariables false
set_option linter.unusedSimpArgs false
namespace Go.Proofs.YthhhnfjcaicjnaaGreatDoor
open Nat renaming reduceEqDiff → jA, reduceAdd → jB, reduceMul → jC, reduceLT → jD, reduceLeDiff → jE, reduceBEq → jF, reduceBNe → jG
open Int renaming reduceLE → jH, reduceLT → jI, reduceToNat → jJ, reduceEq → jK
open Go
set_option maxRecDepth 20000
set_option linter.defProp false
def tfTeC := tfTeA

theorem kd1 {x : Int} (h : x = 1) : (x == 1) = true ∧ (x == 2) = false ∧ (x == 3) = false ∧ (x == 4) = false ∧ (x == 5) = false ∧ (x == 6) = false ∧ (x == 7) = false ∧ (x == 8) = false ∧ (x == 9) = false ∧ (x == 10) = false ∧ (x == 11) = false ∧ (x == 12) = false ∧ (x == 13) = false := by subst h; exact ⟨rfl, rfl, rfl, rfl, rfl, rfl, rfl, rfl, rfl, rfl, rfl, rfl, rfl⟩
theorem kd2 {x : Int} (h : x = 2) : (x == 1) = false ∧ (x == 2) = true ∧ (x == 3) = false ∧ (x == 4) = false ∧ (x == 5) = false ∧ (x == 6) = false ∧ (x == 7) = false ∧ (x == 8) = false ∧ (x == 9) = false ∧ (x == 10) = false ∧ (x == 11) = false ∧ (x == 12) = false ∧ (x == 13) = false := by subst h; exact ⟨rfl, rfl, rfl, rfl, rfl, rfl, rfl, rfl, rfl, rfl, rfl, rfl, rfl⟩
theorem kd3 {x : Int} (h : x = 3) : (x == 1) = false ∧ (x == 2) = false ∧ (x == 3) = true ∧ (x == 4) = false ∧ (x == 5) = false ∧ (x == 6) = false ∧ (x == 7) = false ∧ (x == 8) = false ∧ (x == 9) = false ∧ (x == 10) = false ∧ (x == 11) = false ∧ (x == 12) = false ∧ (x == 13) = false := by subst h; exact ⟨rfl, rfl, rfl, rfl, rfl, rfl, rfl, rfl, rfl, rfl, rfl, rfl, rfl⟩
theorem kd4 {x : Int} (h : x = 4) : (x == 1) = false ∧ (x == 2) = false ∧ (x == 3) = false ∧ (x == 4) = true ∧ (x == 5) = false ∧ (x == 6) = false ∧ (x == 7) = false ∧ (x == 8) = false ∧ (x == 9) = false ∧ (x == 10) = false ∧ (x == 11) = false ∧ (x == 12) = false ∧ (x == 13) = false := by subst h; exact ⟨rfl, rfl, rfl, rfl, rfl, rfl, rfl, rfl, rfl, rfl, rfl, rfl, rfl⟩
theorem kd5 {x : Int} (h : x = 5) : (x == 1) = false ∧ (x == 2) = false ∧ (x == 3) = false ∧ (x == 4) = false ∧ (x == 5) = true ∧ (x == 6) = false ∧ (x == 7) = false ∧ (x == 8) = false ∧ (x == 9) = false ∧ (x == 10) = false ∧ (x == 11) = false ∧ (x == 12) = false ∧ (x == 13) = false := by subst h; exact ⟨rfl, rfl, rfl, rfl, rfl, rfl, rfl, rfl, rfl, rfl, rfl, rfl, rfl⟩
theorem kd6 {x : Int} (h : x = 6) : (x == 1) = false ∧ (x == 2) = false ∧ (x == 3) = false ∧ (x == 4) = false ∧ (x == 5) = false ∧ (x == 6) = true ∧ (x == 7) = false ∧ (x == 8) = false ∧ (x == 9) = false ∧ (x == 10) = false ∧ (x == 11) = false ∧ (x == 12) = false ∧ (x == 13) = false := by subst h; exact ⟨rfl, rfl, rfl, rfl, rfl, rfl, rfl, rfl, rfl, rfl, rfl, rfl, rfl⟩
theorem kd7 {x : Int} (h : x = 7) : (x == 1) = false ∧ (x == 2) = false ∧ (x == 3) = false ∧ (x == 4) = false ∧ (x == 5) = false ∧ (x == 6) = false ∧ (x == 7) = true ∧ (x == 8) = false ∧ (x == 9) = false ∧ (x == 10) = false ∧ (x == 11) = false ∧ (x == 12) = false ∧ (x == 13) = false := by subst h; exact ⟨rfl, rfl, rfl, rfl, rfl, rfl, rfl, rfl, rfl, rfl, rfl, rfl, rfl⟩
theorem kd8 {x : Int} (h : x = 8) : (x == 1) = false ∧ (x == 2) = false ∧ (x == 3) = false ∧ (x == 4) = false ∧ (x == 5) = false ∧ (x == 6) = false ∧ (x == 7) = false ∧ (x == 8) = true ∧ (x == 9) = false ∧ (x == 10) = false ∧ (x == 11) = false ∧ (x == 12) = false ∧ (x == 13) = false := by subst h; exact ⟨rfl, rfl, rfl, rfl, rfl, rfl, rfl, rfl, rfl, rfl, rfl, rfl, rfl⟩
theorem kd9 {x : Int} (h : x = 9) : (x == 1) = false ∧ (x == 2) = false ∧ (x == 3) = false ∧ (x == 4) = false ∧ (x == 5) = false ∧ (x == 6) = false ∧ (x == 7) = false ∧ (x == 8) = false ∧ (x == 9) = true ∧ (x == 10) = false ∧ (x == 11) = false ∧ (x == 12) = false ∧ (x == 13) = false := by subst h; exact ⟨rfl, rfl, rfl, rfl, rfl, rfl, rfl, rfl, rfl, rfl, rfl, rfl, rfl⟩
theorem kd10 {x : Int} (h : x = 10) : (x == 1) = false ∧ (x == 2) = false ∧ (x == 3) = false ∧ (x == 4) = false ∧ (x == 5) = false ∧ (x == 6) = false ∧ (x == 7) = false ∧ (x == 8) = false ∧ (x == 9) = false ∧ (x == 10) = true ∧ (x == 11) = false ∧ (x == 12) = false ∧ (x == 13) = false := by subst h; exact ⟨rfl, rfl, rfl, rfl, rfl, rfl, rfl, rfl, rfl, rfl, rfl, rfl, rfl⟩
theorem kd11 {x : Int} (h : x = 11) : (x == 1) = false ∧ (x == 2) = false ∧ (x == 3) = false ∧ (x == 4) = false ∧ (x == 5) = false ∧ (x == 6) = false ∧ (x == 7) = false ∧ (x == 8) = false ∧ (x == 9) = false ∧ (x == 10) = false ∧ (x == 11) = true ∧ (x == 12) = false ∧ (x == 13) = false := by subst h; exact ⟨rfl, rfl, rfl, rfl, rfl, rfl, rfl, rfl, rfl, rfl, rfl, rfl, rfl⟩
theorem kd12 {x : Int} (h : x = 12) : (x == 1) = false ∧ (x == 2) = false ∧ (x == 3) = false ∧ (x == 4) = false ∧ (x == 5) = false ∧ (x == 6) = false ∧ (x == 7) = false ∧ (x == 8) = false ∧ (x == 9) = false ∧ (x == 10) = false ∧ (x == 11) = false ∧ (x == 12) = true ∧ (x == 13) = false := by subst h; exact ⟨rfl, rfl, rfl, rfl, rfl, rfl, rfl, rfl, rfl, rfl, rfl, rfl, rfl⟩
theorem kd13 {x : Int} (h : x = 13) : (x == 1) = false ∧ (x == 2) = false ∧ (x == 3) = false ∧ (x == 4) = false ∧ (x == 5) = false ∧ (x == 6) = false ∧ (x == 7) = false ∧ (x == 8) = false ∧ (x == 9) = false ∧ (x == 10) = false ∧ (x == 11) = false ∧ (x == 12) = false ∧ (x == 13) = true := by subst h; exact ⟨rfl, rfl, rfl, rfl, rfl, rfl, rfl, rfl, rfl, rfl, rfl, rfl, rfl⟩

def ExT (ns : List No) (E : List En) (V : List Va) (e : Ex) : Prop := e.ar E → ∀ m : M, ACallsZ Tryz.prog 28 [lkE E ns, .sl .no (V.map Va.pv), e.pv] m (fun v m' => ∃ t, tyF E V e = .ok t ∧ v = t.pv ∧ m' = m) (fun v m' => ∃ l c, tyF E V e = .bad l c ∧ v = pStop l c ∧ m' = m)
set_option maxHeartbeats 16000000 in
theorem ex_step (ns : List No) (E : List En) (V : List Va) (e : Ex) (IH : ∀ i (h : i < e.kids.length), ExT ns E V e.kids[i]) : ExT ns E V e := by
 intro har m
 obtain ⟨hk0, hks⟩ := Ex.ar_x har
 clear har
 have hty := tyF_eq E V e
 have IH := fun (i : Nat) (h : i < e.kids.length) => IH i h (Ex.ars_mem hks _ (List.getElem_mem h))
 obtain ⟨R, hR⟩ : ∃ R, tysF E V e.kids = R := ⟨_, rfl⟩
 rw [hR] at hty
 obtain ⟨Q, hQ⟩ : ∃ Q, tyF E V e = Q := ⟨_, rfl⟩
 rw [hQ]
 rw [hQ] at hty
 clear hQ
 unfold lkE at *
 refine ACallsZ.enter (mu := [6]) ok_mix Tryz.func28 rfl (by kernel_rfl) (by kernel_rfl) (by simp only [List.length_cons, List.length_nil, Tryz.ntmps28]; omega) ?_
 (repeat (first | refine aSeq fun X hX => ?_ | refine aBlk ?_ | refine aReg ?_; simp -implicitDefEqProofs only [forall_eq, ↓slp, slb, ↓reduceIte, reduceCtorEq, jA, jB, jC, jD, jE, jF, jG, jH, jI, jJ, jK, tfTeC]; try simp only [fo] | apply hX; clear hX X | intro hlen; unfold maxLen at hlen))
 obtain ⟨I, hI⟩ : ∃ I : F → M → Prop, ∀ f m', I f m' = (∃ (k : Nat) (o : Own) (mm : M) (Ts : List Ty), k ≤ e.kids.length ∧ Ts.length = k ∧ R = preT Ts (tysF E V (e.kids.drop k)) ∧ f 0 = .ep [.sl .no (E.map En.pv), .sl .no (ns.map No.pv)] ∧ f 1 = .sl .no (V.map Va.pv) ∧ f 5 = .ep e.cs ∧ f 6 = .bp m.nb 0 ∧ f 7 = .sl o (Ts.map Ty.pv) ∧ f 11 = .sl .no (e.kids.map Ex.pv) ∧ f 12 = pI e.kids.length ∧ f 13 = pI k ∧ Toks m mm ∧ Mine m mm o 2 ∧ m' = mm.ext [some [.v (.int .u8 0), .v (.string ⟨#[]⟩)]]) := ⟨_, fun _ _ => rfl⟩
 refine aLoop I (fun f m => e.kids.length - numOf (f 13)) ?_ ?_
 ·rw [hI]; exact ⟨0, .full, m, [], by omega, rfl, by rw [List.drop_zero, hR]; cases R <;> rfl, rfl, rfl, rfl, rfl, rfl, rfl, rfl, rfl, .refl _, .full, rfl⟩
 clear hR
 intro f m' hrel
 rw [hI] at hrel
 obtain ⟨k, o, mm, Ts, hk, hll, hR, f0, f1, f5, f6, f7, f11, f12, f13, htk, hmi, rfl⟩ := hrel
 have hnb := htk.nb
 cases c1 : decide ((k : Int) < (e.kids.length : Int)) with
 | true =>
  have hlt : k < e.kids.length := by simpa using c1
  have g0 := getD_map Ex.pv e.kids k hlt
  have hi : IntKind.i64.wrap ((k : Int) + 1) = ((k + 1 : Nat) : Int) := by rw [wrap64 (by omega)]; omega
  have hme : numOf (f 13) = k := by rw [f13]; exact Int.toNat_natCast k
  have hx := IH k hlt
  have hd := tysF_drop E V hlt Ts
  rw [hd] at hR
  clear hd
  generalize e.kids[k] = x at *
  have htl := ty_len Ts
  have hfr := hmi.free
  have hmx : Ts.length + 1 ≤ maxLen := by have := hk0.2.2.2.2.2.2.2.2.2.2.2; unfold maxLen; omega
  have hby : (Ts.length + 1) * 24 ≤ 140737488355328 := by have := hk0.2.2.2.2.2.2.2.2.2.2.2; omega
  (repeat (first | refine aSeq fun X hX => ?_ | refine aSkip ?_ | (first | apply aReg | apply aIf); simp -implicitDefEqProofs only [forall_eq, ↓slp, slb, ↓reduceIte, reduceCtorEq, jA, jB, jC, jD, jE, jF, jG, jH, jI, jJ, jK, tfTeC, f0, f1, f5, f6, f7, f11, f12, f13, pI, c1, g0, hnb]; try simp only [fo] | apply hX; clear hX X | apply And.intro; focus omega))
  refine callP (hx _) ?_ ?_
  ·rintro v mq ⟨l, c, h1, rfl, rfl⟩
   rw [h1] at hR
   subst hR
   exact leave_toks htk rfl ⟨l, c, hty, rfl, rfl⟩
  rintro v mq ⟨t, h1, rfl, rfl⟩
  rw [h1] at hR
  simp -implicitDefEqProofs only [↓slp, slb, ↓reduceIte, reduceCtorEq, jA, jB, jC, jD, jE, jF, jG, jH, jI, jJ, jK, tfTeC, f7, hnb]; try simp only [fo]
  refine ⟨⟨hfr, htl, hmx, hby⟩, ?_⟩
  (repeat (first | refine aReg ?_; simp -implicitDefEqProofs only [forall_eq, ↓slp, slb, ↓reduceIte, reduceCtorEq, jA, jB, jC, jD, jE, jF, jG, jH, jI, jJ, jK, tfTeC, f13, pI, hi]; try simp only [fo] | apply hX; clear hX X))
  rw [hI]
  exact ⟨⟨k + 1, .tok mm.nt, (o.use mm).fresh 2, Ts ++ [t], hlt, by rw [List.length_append, hll]; rfl, hR, f0, f1, f5, f6, by rw [List.map_append]; rfl, f11, f12, rfl, htk.use hmi, Mine.new htk o 2, rfl⟩, by omega⟩
 | false =>
  have hk' : k = e.kids.length := by simp at c1; omega
  subst hk'
  have c0 : decide ((e.kids.length : Int) < (e.kids.length : Int)) = false := by simp
  clear c1 hI IH
  rw [List.drop_length, tysF, preT, List.append_nil] at hR
  subst hR
  simp only [] at hty
  obtain ⟨hkr, hk3, hk6, hk7, hk8, hk9, hk10, hk12, hk13, hko, hkb⟩ := hk0
  have hfv := fun m => findVar_any .no V e.name m
  have hof := fun (h : ¬ findVar V e.name < 0) m => tof_any V e.name h m
  have hfl := fun m => tfail_any e.line e.col m

  have : e.kind = 1 ∨ e.kind = 2 ∨ e.kind = 3 ∨ e.kind = 4 ∨ e.kind = 5 ∨ e.kind = 6 ∨ e.kind = 7 ∨ e.kind = 8 ∨ e.kind = 9 ∨ e.kind = 10 ∨ e.kind = 11 ∨ e.kind = 12 ∨ e.kind = 13 := by omega
  rcases this with hk | hk | hk | hk | hk | hk | hk | hk | hk | hk | hk | hk | hk
  ·have cs := kd1 hk
   have hq : Q = .ok ⟨2, ⟨#[]⟩⟩ := by rw [hty, hk]; rfl
   (repeat (first | refine aSeq fun X hX => ?_ | refine aSkip ?_ | (first | refine aExit ?_ | refine aRet ?_); try simp only [slx, ↓reduceIte, jA, reduceCtorEq] | (first | apply aReg | apply aIf); simp -implicitDefEqProofs only [forall_eq, ↓slp, slb, ↓reduceIte, reduceCtorEq, jA, jB, jC, jD, jE, jF, jG, jH, jI, jJ, jK, tfTeC, f11, f12, f13, pI, c0, f0, f1, f5, f6, f7, hnb, cs]; try simp only [fo] | apply hX; clear hX X | clear hX X; apply hX; clear hX X))
   simp only [aPost, Tryz.results28, aRes_n, aRes_t, aRes_c, pack_one, pack_two]
   simp -implicitDefEqProofs only [↓slp, slb, ↓reduceIte, reduceCtorEq, jA, jB, jC, jD, jE, jF, jG, jH, jI, jJ, jK, tfTeC, f6, hnb]
   exact leave_toks htk rfl ⟨_, hq, rfl, rfl⟩
  ·have cs := kd2 hk
   have hq : Q = .ok ⟨1, ⟨#[]⟩⟩ := by rw [hty, hk]; rfl
   (repeat (first | refine aSeq fun X hX => ?_ | refine aSkip ?_ | (first | refine aExit ?_ | refine aRet ?_); try simp only [slx, ↓reduceIte, jA, reduceCtorEq] | (first | apply aReg | apply aIf); simp -implicitDefEqProofs only [forall_eq, ↓slp, slb, ↓reduceIte, reduceCtorEq, jA, jB, jC, jD, jE, jF, jG, jH, jI, jJ, jK, tfTeC, f11, f12, f13, pI, c0, f0, f1, f5, f6, f7, hnb, cs]; try simp only [fo] | apply hX; clear hX X | clear hX X; apply hX; clear hX X))
   simp only [aPost, Tryz.results28, aRes_n, aRes_t, aRes_c, pack_one, pack_two]
   simp -implicitDefEqProofs only [↓slp, slb, ↓reduceIte, reduceCtorEq, jA, jB, jC, jD, jE, jF, jG, jH, jI, jJ, jK, tfTeC, f6, hnb]
   exact leave_toks htk rfl ⟨_, hq, rfl, rfl⟩
  ·have cs := kd3 hk
   have h3 := hk3 hk
   have h3b : ctorEn E e.name < (E.length : Int) := idxF_lt E
   obtain ⟨j, hj⟩ : ∃ j : Nat, ctorEn E e.name = (j : Int) := ⟨(ctorEn E e.name).toNat, by omega⟩
   have hlj : j < E.length := by omega
   have gj := getD_map En.pv E j hlj
   have hce := fun m => ctorEn_any .no E e.name m
   rw [hj] at hce
   have hq : Q = .ok ⟨3, E[j].name⟩ := by
    rw [hty, hk]
    show TR.ok ⟨3, (E.getD (ctorEn E e.name).toNat enZ).name⟩ = _
    rw [hj, Int.toNat_natCast, List.getD_eq_getElem?_getD, List.getElem?_eq_getElem hlj]; rfl
   (repeat (first | refine aSeq fun X hX => ?_ | refine aSkip ?_ | refine aExit ?_; try simp only [slx, ↓reduceIte, jA, reduceCtorEq] | (first | apply aReg | apply aIf); simp -implicitDefEqProofs only [forall_eq, ↓slp, slb, ↓reduceIte, reduceCtorEq, jA, jB, jC, jD, jE, jF, jG, jH, jI, jJ, jK, tfTeC, f11, f12, f13, pI, c0, f0, f1, f5, f6, f7, hnb, cs]; try simp only [fo] | apply hX; clear hX X | clear hX X; apply hX; clear hX X))
   refine aDrw (fun _ => True) (by kernel_rfl) trivial ?_; simp -implicitDefEqProofs only [forall_eq, eq_self, ↓slp, slb, ↓reduceIte, reduceCtorEq, jA, jB, jC, jD, jE, jF, jG, jH, jI, jJ, jK, tfTeC, f11, f12, f13, pI, c0, f0, f1, f5, f6, f7, hnb, cs]
   refine callM (hce _) ?_
   rintro v mq ⟨rfl, rfl⟩
   refine ⟨trivial, ?_⟩
   simp -implicitDefEqProofs only [↓slp, slb, ↓reduceIte, reduceCtorEq, jA, jB, jC, jD, jE, jF, jG, jH, jI, jJ, jK, tfTeC, f0, f1, f5, f6, f7, hnb, pI, gj, hlj]; try simp only [fo]
   (repeat (first | refine aRet ?_; try simp only [slx, ↓reduceIte, jA, reduceCtorEq] | apply hX; clear hX X))
   simp only [aPost, Tryz.results28, aRes_n, aRes_t, aRes_c, pack_one, pack_two]
   simp -implicitDefEqProofs only [↓slp, slb, ↓reduceIte, reduceCtorEq, jA, jB, jC, jD, jE, jF, jG, jH, jI, jJ, jK, tfTeC, f6, hnb]
   exact leave_toks htk rfl ⟨_, hq, rfl, rfl⟩
  ·have cs := kd4 hk
   cases cn : decide (findVar V e.name < 0) with
   | true =>
    have hq : Q = .bad e.line e.col := by rw [hty, hk]; unfold finF; rw [cn]; rfl
    (repeat (first | refine aSeq fun X hX => ?_ | refine aSkip ?_ | refine aExit ?_; try simp only [slx, ↓reduceIte, jA, reduceCtorEq] | (first | apply aReg | apply aIf); simp -implicitDefEqProofs only [forall_eq, ↓slp, slb, ↓reduceIte, reduceCtorEq, jA, jB, jC, jD, jE, jF, jG, jH, jI, jJ, jK, tfTeC, f11, f12, f13, pI, c0, f0, f1, f5, f6, f7, hnb, cs]; try simp only [fo] | apply hX; clear hX X | clear hX X; apply hX; clear hX X))
    refine callE (hfv _) ?_
    simp -implicitDefEqProofs only [↓slp, slb, ↓reduceIte, reduceCtorEq, jA, jB, jC, jD, jE, jF, jG, jH, jI, jJ, jK, tfTeC, f0, f1, f5, f6, f7, hnb, pI, cn]; try simp only [fo]
    (repeat (first | (first | apply aReg | apply aIf); simp -implicitDefEqProofs only [forall_eq, ↓slp, slb, ↓reduceIte, reduceCtorEq, jA, jB, jC, jD, jE, jF, jG, jH, jI, jJ, jK, tfTeC, f0, f1, f5, f6, f7, hnb, cs, cn]; try simp only [fo] | apply hX; clear hX X))
    refine callP (hfl _) ?_ (fun v m' h => h.elim)
    rintro v mq ⟨rfl, rfl⟩
    exact leave_toks htk rfl ⟨_, _, hq, rfl, rfl⟩
   | false =>
    have hq : Q = .ok (tyOf V e.name) := by rw [hty, hk]; unfold finF; rw [cn]; rfl
    have hov := hof (by simpa using cn)
    (repeat (first | refine aSeq fun X hX => ?_ | refine aSkip ?_ | refine aExit ?_; try simp only [slx, ↓reduceIte, jA, reduceCtorEq] | (first | apply aReg | apply aIf); simp -implicitDefEqProofs only [forall_eq, ↓slp, slb, ↓reduceIte, reduceCtorEq, jA, jB, jC, jD, jE, jF, jG, jH, jI, jJ, jK, tfTeC, f11, f12, f13, pI, c0, f0, f1, f5, f6, f7, hnb, cs]; try simp only [fo] | apply hX; clear hX X | clear hX X; apply hX; clear hX X))
    refine callE (hfv _) ?_
    simp -implicitDefEqProofs only [↓slp, slb, ↓reduceIte, reduceCtorEq, jA, jB, jC, jD, jE, jF, jG, jH, jI, jJ, jK, tfTeC, f0, f1, f5, f6, f7, hnb, pI, cn]; try simp only [fo]
    (repeat (first | refine aSeq fun X hX => ?_ | refine aSkip ?_ | (first | apply aReg | apply aIf); simp -implicitDefEqProofs only [forall_eq, ↓slp, slb, ↓reduceIte, reduceCtorEq, jA, jB, jC, jD, jE, jF, jG, jH, jI, jJ, jK, tfTeC, f11, f12, f13, pI, c0, f0, f1, f5, f6, f7, hnb, cs, cn]; try simp only [fo] | apply hX; clear hX X))
    refine callE (hov _) ?_
    simp -implicitDefEqProofs only [↓slp, slb, ↓reduceIte, reduceCtorEq, jA, jB, jC, jD, jE, jF, jG, jH, jI, jJ, jK, tfTeC, f0, f1, f5, f6, f7, hnb]; try simp only [fo]
    (repeat (first | refine aRet ?_; try simp only [slx, ↓reduceIte, jA, reduceCtorEq] | apply hX; clear hX X))
    simp only [aPost, Tryz.results28, aRes_n, aRes_t, aRes_c, pack_one, pack_two]
    simp -implicitDefEqProofs only [↓slp, slb, ↓reduceIte, reduceCtorEq, jA, jB, jC, jD, jE, jF, jG, jH, jI, jJ, jK, tfTeC, f6, hnb]
    exact leave_toks htk rfl ⟨_, hq, rfl, rfl⟩
  ·have cs := kd5 hk
   cases cn : decide (findVar V e.name < 0) with
   | true =>
    have hq : Q = .bad e.line e.col := by rw [hty, hk]; unfold finF; rw [cn]; rfl
    (repeat (first | refine aSeq fun X hX => ?_ | refine aSkip ?_ | refine aExit ?_; try simp only [slx, ↓reduceIte, jA, reduceCtorEq] | (first | apply aReg | apply aIf); simp -implicitDefEqProofs only [forall_eq, ↓slp, slb, ↓reduceIte, reduceCtorEq, jA, jB, jC, jD, jE, jF, jG, jH, jI, jJ, jK, tfTeC, f11, f12, f13, pI, c0, f0, f1, f5, f6, f7, hnb, cs]; try simp only [fo] | apply hX; clear hX X | clear hX X; apply hX; clear hX X))
    refine callE (hfv _) ?_
    simp -implicitDefEqProofs only [↓slp, slb, ↓reduceIte, reduceCtorEq, jA, jB, jC, jD, jE, jF, jG, jH, jI, jJ, jK, tfTeC, f0, f1, f5, f6, f7, hnb, pI, cn]; try simp only [fo]
    (repeat (first | (first | apply aReg | apply aIf); simp -implicitDefEqProofs only [forall_eq, ↓slp, slb, ↓reduceIte, reduceCtorEq, jA, jB, jC, jD, jE, jF, jG, jH, jI, jJ, jK, tfTeC, f0, f1, f5, f6, f7, hnb, cs, cn]; try simp only [fo] | apply hX; clear hX X))
    refine callP (hfl _) ?_ (fun v m' h => h.elim)
    rintro v mq ⟨rfl, rfl⟩
    exact leave_toks htk rfl ⟨_, _, hq, rfl, rfl⟩
   | false =>
    have hq : Q = .ok (tyOf V e.name) := by rw [hty, hk]; unfold finF; rw [cn]; rfl
    have hov := hof (by simpa using cn)
    (repeat (first | refine aSeq fun X hX => ?_ | refine aSkip ?_ | refine aExit ?_; try simp only [slx, ↓reduceIte, jA, reduceCtorEq] | (first | apply aReg | apply aIf); simp -implicitDefEqProofs only [forall_eq, ↓slp, slb, ↓reduceIte, reduceCtorEq, jA, jB, jC, jD, jE, jF, jG, jH, jI, jJ, jK, tfTeC, f11, f12, f13, pI, c0, f0, f1, f5, f6, f7, hnb, cs]; try simp only [fo] | apply hX; clear hX X | clear hX X; apply hX; clear hX X))
    refine callE (hfv _) ?_
    simp -implicitDefEqProofs only [↓slp, slb, ↓reduceIte, reduceCtorEq, jA, jB, jC, jD, jE, jF, jG, jH, jI, jJ, jK, tfTeC, f0, f1, f5, f6, f7, hnb, pI, cn]; try simp only [fo]
    (repeat (first | refine aSeq fun X hX => ?_ | refine aSkip ?_ | (first | apply aReg | apply aIf); simp -implicitDefEqProofs only [forall_eq, ↓slp, slb, ↓reduceIte, reduceCtorEq, jA, jB, jC, jD, jE, jF, jG, jH, jI, jJ, jK, tfTeC, f11, f12, f13, pI, c0, f0, f1, f5, f6, f7, hnb, cs, cn]; try simp only [fo] | apply hX; clear hX X))
    refine callE (hov _) ?_
    simp -implicitDefEqProofs only [↓slp, slb, ↓reduceIte, reduceCtorEq, jA, jB, jC, jD, jE, jF, jG, jH, jI, jJ, jK, tfTeC, f0, f1, f5, f6, f7, hnb]; try simp only [fo]
    (repeat (first | refine aRet ?_; try simp only [slx, ↓reduceIte, jA, reduceCtorEq] | apply hX; clear hX X))
    simp only [aPost, Tryz.results28, aRes_n, aRes_t, aRes_c, pack_one, pack_two]
    simp -implicitDefEqProofs only [↓slp, slb, ↓reduceIte, reduceCtorEq, jA, jB, jC, jD, jE, jF, jG, jH, jI, jJ, jK, tfTeC, f6, hnb]
    exact leave_toks htk rfl ⟨_, hq, rfl, rfl⟩
  ·have cs := kd6 hk
   have hop := fun m => toperator_any e Ts (hko (by omega)).1 (hko (by omega)).2 (by omega) m
   have hq : Q = if opOk (opIn e.op) (Ts.getD 0 tyZ) Ts then .ok ⟨opOut e.op, ⟨#[]⟩⟩ else .bad e.line e.col := by rw [hty, hk]; rfl
   (repeat (first | refine aSeq fun X hX => ?_ | refine aSkip ?_ | refine aExit ?_; try simp only [slx, ↓reduceIte, jA, reduceCtorEq] | (first | apply aReg | apply aIf); simp -implicitDefEqProofs only [forall_eq, ↓slp, slb, ↓reduceIte, reduceCtorEq, jA, jB, jC, jD, jE, jF, jG, jH, jI, jJ, jK, tfTeC, f11, f12, f13, pI, c0, f0, f1, f5, f6, f7, hnb, cs]; try simp only [fo] | apply hX; clear hX X | clear hX X; apply hX; clear hX X))
   refine callPS (hop _) (by simp only [List.map_cons, List.map_nil, PV.settle, PV.settles, Ex.settle_pv]) ?_ ?_
   ·rintro v mq ⟨h1, rfl, rfl⟩
    rw [h1] at hq
    exact leave_toks htk rfl ⟨_, _, hq, rfl, rfl⟩
   rintro v mq ⟨h1, rfl, rfl⟩
   rw [h1] at hq
   simp -implicitDefEqProofs only [↓slp, slb, ↓reduceIte, reduceCtorEq, jA, jB, jC, jD, jE, jF, jG, jH, jI, jJ, jK, tfTeC, f0, f1, f5, f6, f7, hnb]; try simp only [fo]
   (repeat (first | refine aRet ?_; try simp only [slx, ↓reduceIte, jA, reduceCtorEq] | apply hX; clear hX X))
   simp only [aPost, Tryz.results28, aRes_n, aRes_t, aRes_c, pack_one, pack_two]
   simp -implicitDefEqProofs only [↓slp, slb, ↓reduceIte, reduceCtorEq, jA, jB, jC, jD, jE, jF, jG, jH, jI, jJ, jK, tfTeC, f6, hnb]
   exact leave_toks htk rfl ⟨_, hq, rfl, rfl⟩
  ·have cs := kd7 hk
   have hop := fun m => toperator_any e Ts (hko (by omega)).1 (hko (by omega)).2 (by omega) m
   have hq : Q = if opOk (opIn e.op) (Ts.getD 0 tyZ) Ts then .ok ⟨opOut e.op, ⟨#[]⟩⟩ else .bad e.line e.col := by rw [hty, hk]; rfl
   (repeat (first | refine aSeq fun X hX => ?_ | refine aSkip ?_ | refine aExit ?_; try simp only [slx, ↓reduceIte, jA, reduceCtorEq] | (first | apply aReg | apply aIf); simp -implicitDefEqProofs only [forall_eq, ↓slp, slb, ↓reduceIte, reduceCtorEq, jA, jB, jC, jD, jE, jF, jG, jH, jI, jJ, jK, tfTeC, f11, f12, f13, pI, c0, f0, f1, f5, f6, f7, hnb, cs]; try simp only [fo] | apply hX; clear hX X | clear hX X; apply hX; clear hX X))
   refine callPS (hop _) (by simp only [List.map_cons, List.map_nil, PV.settle, PV.settles, Ex.settle_pv]) ?_ ?_
   ·rintro v mq ⟨h1, rfl, rfl⟩
    rw [h1] at hq
    exact leave_toks htk rfl ⟨_, _, hq, rfl, rfl⟩
   rintro v mq ⟨h1, rfl, rfl⟩
   rw [h1] at hq
   simp -implicitDefEqProofs only [↓slp, slb, ↓reduceIte, reduceCtorEq, jA, jB, jC, jD, jE, jF, jG, jH, jI, jJ, jK, tfTeC, f0, f1, f5, f6, f7, hnb]; try simp only [fo]
   (repeat (first | refine aRet ?_; try simp only [slx, ↓reduceIte, jA, reduceCtorEq] | apply hX; clear hX X))
   simp only [aPost, Tryz.results28, aRes_n, aRes_t, aRes_c, pack_one, pack_two]
   simp -implicitDefEqProofs only [↓slp, slb, ↓reduceIte, reduceCtorEq, jA, jB, jC, jD, jE, jF, jG, jH, jI, jJ, jK, tfTeC, f6, hnb]
   exact leave_toks htk rfl ⟨_, hq, rfl, rfl⟩
  ·have cs := kd8 hk
   obtain ⟨a, b, c, rfl⟩ : ∃ a b c, Ts = [a, b, c] := by
    match Ts, hll.trans (hk8 hk) with
    | [a, b, c], _ => exact ⟨a, b, c, rfl⟩
   have hq : Q = if a.kind == 1 && (b.kind == c.kind && b.name.toList == c.name.toList) then .ok b else .bad e.line e.col := by rw [hty, hk]; rfl
   cases b1 : (a.kind == 1) <;> cases b2 : (b.kind == c.kind) <;> cases b3 : (b.name.toList == c.name.toList)
   all_goals
    rw [b1, b2, b3] at hq
    (repeat (first | refine aSeq fun X hX => ?_ | refine aSkip ?_ | (first | refine aExit ?_ | refine aRet ?_); try simp only [slx, ↓reduceIte, jA, reduceCtorEq] | (first | apply aReg | refine aDrE ?_ | apply aIf); simp -implicitDefEqProofs only [forall_eq, ↓slp, slb, ↓reduceIte, reduceCtorEq, jA, jB, jC, jD, jE, jF, jG, jH, jI, jJ, jK, tfTeC, f11, f12, f13, pI, c0, f0, f1, f5, f6, f7, hnb, cs, List.map_cons, List.map_nil, Ty.pv, b1, b2, b3]; try simp only [fo] | apply hX; clear hX X | clear hX X; apply hX; clear hX X))
    first
     | refine callP (hfl _) ?_ (fun v m' h => h.elim)
       rintro v mq ⟨rfl, rfl⟩
       exact leave_toks htk rfl ⟨_, _, hq, rfl, rfl⟩
     | simp only [aPost, Tryz.results28, aRes_n, aRes_t, aRes_c, pack_one, pack_two]
       simp -implicitDefEqProofs only [↓slp, slb, ↓reduceIte, reduceCtorEq, jA, jB, jC, jD, jE, jF, jG, jH, jI, jJ, jK, tfTeC, f6, hnb]
       exact leave_toks htk rfl ⟨_, hq, rfl, rfl⟩
  ·have cs := kd9 hk
   obtain ⟨a, b, rfl⟩ : ∃ a b, Ts = [a, b] := by
    match Ts, hll.trans (hk9 (by omega)) with
    | [a, b], _ => exact ⟨a, b, rfl⟩
   have hq : Q = if a.kind == b.kind && a.name.toList == b.name.toList then .ok a else .bad e.line e.col := by rw [hty, hk]; rfl
   cases b2 : (a.kind == b.kind) <;> cases b3 : (a.name.toList == b.name.toList)
   all_goals
    rw [b2, b3] at hq
    (repeat (first | refine aSeq fun X hX => ?_ | refine aSkip ?_ | (first | refine aExit ?_ | refine aRet ?_); try simp only [slx, ↓reduceIte, jA, reduceCtorEq] | (first | apply aReg | refine aDrE ?_ | apply aIf); simp -implicitDefEqProofs only [forall_eq, ↓slp, slb, ↓reduceIte, reduceCtorEq, jA, jB, jC, jD, jE, jF, jG, jH, jI, jJ, jK, tfTeC, f11, f12, f13, pI, c0, f0, f1, f5, f6, f7, hnb, cs, List.map_cons, List.map_nil, Ty.pv, b2, b3]; try simp only [fo] | apply hX; clear hX X | clear hX X; apply hX; clear hX X))
    first
     | refine callP (hfl _) ?_ (fun v m' h => h.elim)
       rintro v mq ⟨rfl, rfl⟩
       exact leave_toks htk rfl ⟨_, _, hq, rfl, rfl⟩
     | simp only [aPost, Tryz.results28, aRes_n, aRes_t, aRes_c, pack_one, pack_two]
       simp -implicitDefEqProofs only [↓slp, slb, ↓reduceIte, reduceCtorEq, jA, jB, jC, jD, jE, jF, jG, jH, jI, jJ, jK, tfTeC, f6, hnb]
       exact leave_toks htk rfl ⟨_, hq, rfl, rfl⟩
  ·have cs := kd10 hk
   obtain ⟨a, rfl⟩ : ∃ a, Ts = [a] := by
    match Ts, hll.trans (hk10 hk) with
    | [a], _ => exact ⟨a, rfl⟩
   have hq : Q = .ok a := by rw [hty, hk]; rfl
   (repeat (first | refine aSeq fun X hX => ?_ | refine aSkip ?_ | (first | refine aExit ?_ | refine aRet ?_); try simp only [slx, ↓reduceIte, jA, reduceCtorEq] | (first | apply aReg | apply aIf); simp -implicitDefEqProofs only [forall_eq, ↓slp, slb, ↓reduceIte, reduceCtorEq, jA, jB, jC, jD, jE, jF, jG, jH, jI, jJ, jK, tfTeC, f11, f12, f13, pI, c0, f0, f1, f5, f6, f7, hnb, cs, List.map_cons, List.map_nil, Ty.pv]; try simp only [fo] | apply hX; clear hX X | clear hX X; apply hX; clear hX X))
   simp only [aPost, Tryz.results28, aRes_n, aRes_t, aRes_c, pack_one, pack_two]
   simp -implicitDefEqProofs only [↓slp, slb, ↓reduceIte, reduceCtorEq, jA, jB, jC, jD, jE, jF, jG, jH, jI, jJ, jK, tfTeC, f6, hnb]
   exact leave_toks htk rfl ⟨_, hq, rfl, rfl⟩
  ·have cs := kd11 hk
   obtain ⟨a, b, rfl⟩ : ∃ a b, Ts = [a, b] := by
    match Ts, hll.trans (hk9 (by omega)) with
    | [a, b], _ => exact ⟨a, b, rfl⟩
   have hq : Q = if a.kind == b.kind && a.name.toList == b.name.toList then .ok a else .bad e.line e.col := by rw [hty, hk]; rfl
   cases b2 : (a.kind == b.kind) <;> cases b3 : (a.name.toList == b.name.toList)
   all_goals
    rw [b2, b3] at hq
    (repeat (first | refine aSeq fun X hX => ?_ | refine aSkip ?_ | (first | refine aExit ?_ | refine aRet ?_); try simp only [slx, ↓reduceIte, jA, reduceCtorEq] | (first | apply aReg | refine aDrE ?_ | apply aIf); simp -implicitDefEqProofs only [forall_eq, ↓slp, slb, ↓reduceIte, reduceCtorEq, jA, jB, jC, jD, jE, jF, jG, jH, jI, jJ, jK, tfTeC, f11, f12, f13, pI, c0, f0, f1, f5, f6, f7, hnb, cs, List.map_cons, List.map_nil, Ty.pv, b2, b3]; try simp only [fo] | apply hX; clear hX X | clear hX X; apply hX; clear hX X))
    first
     | refine callP (hfl _) ?_ (fun v m' h => h.elim)
       rintro v mq ⟨rfl, rfl⟩
       exact leave_toks htk rfl ⟨_, _, hq, rfl, rfl⟩
     | simp only [aPost, Tryz.results28, aRes_n, aRes_t, aRes_c, pack_one, pack_two]
       simp -implicitDefEqProofs only [↓slp, slb, ↓reduceIte, reduceCtorEq, jA, jB, jC, jD, jE, jF, jG, jH, jI, jJ, jK, tfTeC, f6, hnb]
       exact leave_toks htk rfl ⟨_, hq, rfl, rfl⟩
  ·have cs := kd12 hk
   obtain ⟨a, rfl⟩ : ∃ a, Ts = [a] := by
    match Ts, hll.trans (hk12 hk).1 with
    | [a], _ => exact ⟨a, rfl⟩
   obtain ⟨x, hka⟩ : ∃ x, e.kids = [x] := by
    match hks2 : e.kids, (hk12 hk).1 with
    | [x], _ => exact ⟨x, rfl⟩
   obtain ⟨c, r, hn⟩ : ∃ c r, e.names = c :: r := by
    match hn2 : e.names, (hk12 hk).2 with
    | c :: r, _ => exact ⟨c, r, rfl⟩
   cases cn : decide (findVar V e.name < 0) with
   | true =>
    have hq : Q = .bad e.line e.col := by rw [hty, hk]; unfold finF; rw [cn]; rfl
    (repeat (first | refine aSeq fun X hX => ?_ | refine aSkip ?_ | refine aExit ?_; try simp only [slx, ↓reduceIte, jA, reduceCtorEq] | (first | apply aReg | apply aIf); simp -implicitDefEqProofs only [forall_eq, ↓slp, slb, ↓reduceIte, reduceCtorEq, jA, jB, jC, jD, jE, jF, jG, jH, jI, jJ, jK, tfTeC, f11, f12, f13, pI, c0, f0, f1, f5, f6, f7, hnb, cs]; try simp only [fo] | apply hX; clear hX X | clear hX X; apply hX; clear hX X))
    refine callE (hfv _) ?_
    simp -implicitDefEqProofs only [↓slp, slb, ↓reduceIte, reduceCtorEq, jA, jB, jC, jD, jE, jF, jG, jH, jI, jJ, jK, tfTeC, f0, f1, f5, f6, f7, hnb, pI, cn]; try simp only [fo]
    (repeat (first | (first | apply aReg | apply aIf); simp -implicitDefEqProofs only [forall_eq, ↓slp, slb, ↓reduceIte, reduceCtorEq, jA, jB, jC, jD, jE, jF, jG, jH, jI, jJ, jK, tfTeC, f0, f1, f5, f6, f7, hnb, cs, cn]; try simp only [fo] | apply hX; clear hX X))
    refine callP (hfl _) ?_ (fun v m' h => h.elim)
    rintro v mq ⟨rfl, rfl⟩
    exact leave_toks htk rfl ⟨_, _, hq, rfl, rfl⟩
   | false =>
    have hov := hof (by simpa using cn)
    have hct := fun m => ctors_any E (tyOf V e.name) m
    have hcn := fun m => contains_any .no (ctorsF E (tyOf V e.name)) c m
    have hsl := fun m => st_any x m
    have hq : Q = if hasS (ctorsF E (tyOf V e.name)) c && stF x then .ok a else .bad e.line e.col := by
     rw [hty, hk, hka, hn]; unfold finF; rw [cn]
     show (if hasS (ctorsF E (tyOf V e.name)) c && (stF x && true) then TR.ok a else .bad e.line e.col) = _
     rw [Bool.and_true]
    generalize ctorsF E (tyOf V e.name) = all at *
    cases b1 : hasS all c <;> cases b2 : stF x
    all_goals
     rw [b1, b2] at hq
     (repeat (first | refine aSeq fun X hX => ?_ | refine aSkip ?_ | refine aExit ?_; try simp only [slx, ↓reduceIte, jA, reduceCtorEq] | (first | apply aReg | apply aIf); simp -implicitDefEqProofs only [forall_eq, ↓slp, slb, ↓reduceIte, reduceCtorEq, jA, jB, jC, jD, jE, jF, jG, jH, jI, jJ, jK, tfTeC, f11, f12, f13, pI, c0, f0, f1, f5, f6, f7, hnb, cs]; try simp only [fo] | apply hX; clear hX X | clear hX X; apply hX; clear hX X))
     refine callE (hfv _) ?_
     simp -implicitDefEqProofs only [↓slp, slb, ↓reduceIte, reduceCtorEq, jA, jB, jC, jD, jE, jF, jG, jH, jI, jJ, jK, tfTeC, f0, f1, f5, f6, f7, hnb, pI, cn]; try simp only [fo]
     (repeat (first | refine aSeq fun X hX => ?_ | refine aSkip ?_ | (first | apply aReg | refine aDrE ?_ | apply aIf); simp -implicitDefEqProofs only [forall_eq, ↓slp, slb, ↓reduceIte, reduceCtorEq, jA, jB, jC, jD, jE, jF, jG, jH, jI, jJ, jK, tfTeC, f11, f12, f13, pI, c0, f0, f1, f5, f6, f7, hnb, cs, cn, hn, hka] | apply hX; clear hX X))
     refine callE (hov _) ?_
     simp -implicitDefEqProofs only [↓slp, slb, ↓reduceIte, reduceCtorEq, jA, jB, jC, jD, jE, jF, jG, jH, jI, jJ, jK, tfTeC, f0, f1, f5, f6, f7, hnb, hn, hka, List.map_cons]
     refine callE (hct _) ?_
     simp -implicitDefEqProofs only [↓slp, slb, ↓reduceIte, reduceCtorEq, jA, jB, jC, jD, jE, jF, jG, jH, jI, jJ, jK, tfTeC, f0, f1, f5, f6, f7, hnb, hn, hka, List.map_cons]
     refine callE (hcn _) ?_
     simp -implicitDefEqProofs only [↓slp, slb, ↓reduceIte, reduceCtorEq, jA, jB, jC, jD, jE, jF, jG, jH, jI, jJ, jK, tfTeC, f0, f1, f5, f6, f7, hnb, pB, b1, hn, hka, List.map_cons]; try simp only [fo]
     try refine callE (hsl _) ?_
     try (simp -implicitDefEqProofs only [↓slp, slb, ↓reduceIte, reduceCtorEq, jA, jB, jC, jD, jE, jF, jG, jH, jI, jJ, jK, tfTeC, f0, f1, f5, f6, f7, hnb, pB, b2]; try simp only [fo])
     (repeat (first | refine aSeq fun X hX => ?_ | refine aSkip ?_ | refine aRet ?_ | (first | apply aReg | apply aIf); simp -implicitDefEqProofs only [forall_eq, ↓slp, slb, ↓reduceIte, reduceCtorEq, jA, jB, jC, jD, jE, jF, jG, jH, jI, jJ, jK, tfTeC, f0, f1, f5, f6, f7, hnb, cs, List.map_cons]; try simp only [fo] | apply hX; clear hX X))
     first
      | refine callP (hfl _) ?_ (fun v m' h => h.elim)
        rintro v mq ⟨rfl, rfl⟩
        exact leave_toks htk rfl ⟨_, _, hq, rfl, rfl⟩
      | simp only [aPost, Tryz.results28, aRes_n, aRes_t, aRes_c, pack_one, pack_two]
        simp -implicitDefEqProofs only [↓slp, slb, ↓reduceIte, reduceCtorEq, jA, jB, jC, jD, jE, jF, jG, jH, jI, jJ, jK, tfTeC, f6, hnb]
        exact leave_toks htk rfl ⟨_, hq, rfl, rfl⟩
  ·have cs := kd13 hk
   have h0 : 0 < Ts.length := by have := hk13 hk; omega
   cases cn : decide (findVar V e.name < 0) with
   | true =>
    have hq : Q = .bad e.line e.col := by rw [hty, hk]; unfold finF; rw [cn]; rfl
    (repeat (first | refine aSeq fun X hX => ?_ | refine aExit ?_; try simp only [slx, ↓reduceIte, jA, reduceCtorEq] | (first | apply aReg | apply aIf); simp -implicitDefEqProofs only [forall_eq, ↓slp, slb, ↓reduceIte, reduceCtorEq, jA, jB, jC, jD, jE, jF, jG, jH, jI, jJ, jK, tfTeC, f11, f12, f13, pI, c0, f0, f1, f5, f6, f7, hnb, cs]; try simp only [fo] | apply hX; clear hX X | clear hX X; apply hX; clear hX X))
    refine callE (hfv _) ?_
    simp -implicitDefEqProofs only [↓slp, slb, ↓reduceIte, reduceCtorEq, jA, jB, jC, jD, jE, jF, jG, jH, jI, jJ, jK, tfTeC, f0, f1, f5, f6, f7, hnb, pI, cn]; try simp only [fo]
    (repeat (first | (first | apply aReg | apply aIf); simp -implicitDefEqProofs only [forall_eq, ↓slp, slb, ↓reduceIte, reduceCtorEq, jA, jB, jC, jD, jE, jF, jG, jH, jI, jJ, jK, tfTeC, f0, f1, f5, f6, f7, hnb, cs, cn]; try simp only [fo] | apply hX; clear hX X))
    refine callP (hfl _) ?_ (fun v m' h => h.elim)
    rintro v mq ⟨rfl, rfl⟩
    exact leave_toks htk rfl ⟨_, _, hq, rfl, rfl⟩
   | false =>
    have hmg := fun m => merge_any ns E V e Ts (by simpa using cn) (by have := hk13 hk; omega) h0 (by omega) m
    have hq : Q = if mgOk (ctorsF E (tyOf V e.name)) (Ts.getD 0 tyZ) [] e.names Ts && e.names.length == (ctorsF E (tyOf V e.name)).length then .ok (Ts.getD 0 tyZ) else .bad e.line e.col := by
     rw [hty, hk]; unfold finF; rw [cn]; rfl
    have g0 := getD_map Ty.pv Ts 0 h0
    rw [getD_cons0 Ts h0 tyZ] at hq
    rw [getD_cons0 Ts h0 tyZ] at hmg
    unfold lkE at hmg
    (repeat (first | refine aSeq fun X hX => ?_ | refine aExit ?_; try simp only [slx, ↓reduceIte, jA, reduceCtorEq] | (first | apply aReg | apply aIf); simp -implicitDefEqProofs only [forall_eq, ↓slp, slb, ↓reduceIte, reduceCtorEq, jA, jB, jC, jD, jE, jF, jG, jH, jI, jJ, jK, tfTeC, f11, f12, f13, pI, c0, f0, f1, f5, f6, f7, hnb, cs]; try simp only [fo] | apply hX; clear hX X | clear hX X; apply hX; clear hX X))
    refine callE (hfv _) ?_
    simp -implicitDefEqProofs only [↓slp, slb, ↓reduceIte, reduceCtorEq, jA, jB, jC, jD, jE, jF, jG, jH, jI, jJ, jK, tfTeC, f0, f1, f5, f6, f7, hnb, pI, cn]; try simp only [fo]
    (repeat (first | refine aSeq fun X hX => ?_ | refine aSkip ?_ | (first | apply aReg | apply aIf); simp -implicitDefEqProofs only [forall_eq, ↓slp, slb, ↓reduceIte, reduceCtorEq, jA, jB, jC, jD, jE, jF, jG, jH, jI, jJ, jK, tfTeC, f11, f12, f13, pI, c0, f0, f1, f5, f6, f7, hnb, cs, cn]; try simp only [fo] | apply hX; clear hX X))
    refine callPS (hmg _) (by simp only [List.map_cons, List.map_nil, PV.settle, PV.settles, Ex.settle_pv]) ?_ ?_
    ·rintro v mq ⟨h1, rfl, rfl⟩
     rw [h1] at hq
     exact leave_toks htk rfl ⟨_, _, hq, rfl, rfl⟩
    rintro v mq ⟨h1, rfl, rfl⟩
    rw [h1] at hq
    simp -implicitDefEqProofs only [↓slp, slb, ↓reduceIte, reduceCtorEq, jA, jB, jC, jD, jE, jF, jG, jH, jI, jJ, jK, tfTeC, f0, f1, f5, f6, f7, hnb]; try simp only [fo]
    (repeat (first | refine aSeq fun X hX => ?_ | refine aRet ?_ | refine aReg ?_; simp -implicitDefEqProofs only [forall_eq, ↓slp, slb, ↓reduceIte, reduceCtorEq, jA, jB, jC, jD, jE, jF, jG, jH, jI, jJ, jK, tfTeC, f0, f1, f5, f6, f7, hnb, cs, g0, h0]; try simp only [fo] | apply hX; clear hX X))
    simp only [aPost, Tryz.results28, aRes_n, aRes_t, aRes_c, pack_one, pack_two]
    simp -implicitDefEqProofs only [↓slp, slb, ↓reduceIte, reduceCtorEq, jA, jB, jC, jD, jE, jF, jG, jH, jI, jJ, jK, tfTeC, f6, hnb]
    exact leave_toks htk rfl ⟨_, hq, rfl, rfl⟩
theorem ex_any (ns : List No) (E : List En) (V : List Va) (e : Ex) : ExT ns E V e := Ex.ind (motive := ExT ns E V) (fun e IH => ex_step ns E V e IH) e

def tfTeE := tfTeA

theorem DRet.mono {P : Program} {h : FuncId} {args : List PV} {m : M} {Q Q' : M → Prop} (hd : DRet P h args m Q) (hq : ∀ m', Q m' → Q' m') : DRet P h args m Q' := fun G w vs a b c => (hd G w vs a b c).mono (by rintro e u w' ⟨h1, h2, m', G', h3, h4, h5⟩; exact ⟨h1, h2, m', G', hq _ h3, h4, h5⟩)
theorem DPan.mono {P : Program} {h : FuncId} {args : List PV} {v : PV} {m : M} {Q Q' : M → Prop} (hd : DPan P h args v m Q) (hq : ∀ m', Q m' → Q' m') : DPan P h args v m Q' := fun G w vs y a b c d => (hd G w vs y a b c d).mono (by rintro e u w' ⟨h1, h2, m', G', h3, h4, h5⟩; exact ⟨h1, h2, m', G', hq _ h3, h4, h5⟩)
set_option maxHeartbeats 2000000 in
theorem caught_ret (x : PV) (m : M) : DRet Tryz.prog 27 [x] m (fun m' => m' = m) := by
 refine DRet.of (mu := []) ok_mix Tryz.func27 rfl rfl ⟨rfl, rfl, rfl⟩ (by kernel_rfl) (by decide) (by simp only [List.length_cons, List.length_nil, Tryz.ntmps27]; omega) ?_
 (repeat (first | refine aSeq fun X hX => ?_ | refine aReg ?_; simp -implicitDefEqProofs only [↓slp, slb, ↓reduceIte, tfTeE] | apply hX; clear hX X))
 refine aIf ?_; simp -implicitDefEqProofs only [slb, ↓reduceIte, reduceCtorEq]
 (repeat (refine aReg ?_; simp -implicitDefEqProofs only [↓slp, slb, ↓reduceIte, reduceCtorEq, jA]))
set_option maxHeartbeats 2000000 in
theorem caught_pan (id : Nat) (x : PV) (l c : Int) (m : M) (hg : m.get id = some [x]) : DPan Tryz.prog 27 [.bp id 0] (pStop l c) m (fun m' => m' = m.upd id [pA l c 7]) := by
 refine DPan.of (mu := []) ok_mix Tryz.func27 rfl rfl ⟨rfl, rfl, rfl⟩ (by kernel_rfl) (by decide) (by simp only [List.length_cons, List.length_nil, Tryz.ntmps27]; omega) ?_
 have hu := Tryz.underlying132
 (repeat (first | refine aSeq fun X hX => ?_ | (first | apply aReg | apply aIf); simp -implicitDefEqProofs only [↓slp, slb, ↓reduceIte, reduceCtorEq, jA, jB, jE, jF, tfTeE, hu, hg] | apply hX; clear hX X))
def errT : TR → PV
 | .ok _ => .v .nilIface
 | .bad l c => pA l c 7
def tyT : TR → Ty
 | .ok t => t
 | .bad _ _ => tyZ
set_option maxHeartbeats 8000000 in
theorem tExpr_any (ns : List No) (E : List En) (V : List Va) (e : Ex) (har : e.ar E) (m : M) :
    ACalls Tryz.prog 9 [.ag [.sl .no (E.map En.pv), .sl .no (ns.map No.pv)], .sl .no (V.map Va.pv), e.pv] m (fun v m' => v = .tp [(tyT (tyF E V e)).pv, errT (tyF E V e)] ∧ m' = m) := by
 have hen := ex_any ns E V e har
 unfold lkE at hen
 obtain ⟨Q, hQ⟩ : ∃ Q, tyF E V e = Q := ⟨_, rfl⟩
 rw [hQ] at hen ⊢
 refine ACalls.leave (R := fun v m' => v = .tp [(tyT Q).pv, errT Q] ∧ m' = m.ext [some [.v (.int .u8 (tyT Q).kind), .v (.string (tyT Q).name)], some [errT Q]]) ?_ (fun v m' ⟨h1, h2⟩ => by subst h1 h2; exact leave_ext (by cases Q <;> rfl) ⟨(by cases Q <;> rfl), rfl⟩)
 obtain ⟨Xf, hXf⟩ : ∃ Xf : F → M → Prop, ∀ f1 m1, Xf f1 m1 = ((f1 1 = .sl .no (V.map Va.pv) ∧ f1 3 = .ep [.sl .no (E.map En.pv), .sl .no (ns.map No.pv)] ∧ f1 5 = .ep e.cs ∧ f1 6 = .bp m.nb 0 ∧ f1 7 = .bp (m.nb + 1) 0) ∧ m1 = m.ext [some [.v (.int .u8 0), .v (.string ⟨#[]⟩)], some [.v .nilIface]]) := ⟨_, fun _ _ => rfl⟩
 refine ACalls.enterDM (mu := [6, 7]) (l := [_]) (kps := [6, 7]) ok_mix Tryz.func9 rfl (by kernel_rfl) (by kernel_rfl) ⟨rfl, rfl, rfl, rfl, rfl⟩ ?_ (fun kv => by rw [bd_kv _ _ kv (fun _ => undef)]; kernel_rfl) (by simp only [List.length_cons, List.length_nil, Tryz.ntmps9]; omega) Xf ?_ ?_
 ·intro A hA
  simp only [List.mem_cons, List.not_mem_nil, or_false] at hA
  rcases hA with rfl
  kernel_rfl
 ·unfold aPre
  (repeat revert X); refine wW tfTeE ?_; repeat intro X hX
  show Xf _ _
  rw [hXf]
  exact ⟨⟨rfl, rfl, rfl, rfl, rfl⟩, rfl⟩
 ·intro f1 m1 hx
  rw [hXf] at hx
  obtain ⟨⟨f1', f3, f5, f6, f7⟩, rfl⟩ := hx
  have hargs : (#[Operand.tmp 7] : Array Operand).toList.map (ev f1) = [.bp (m.nb + 1) 0] := by
   simp only [List.map_cons, List.map_nil, ev_tmp, f7]
  have k6 : (F.only [6, 7] f1) 6 = .bp m.nb 0 := by unfold F.only; rw [if_pos (by simp)]; exact f6
  have k7 : (F.only [6, 7] f1) 7 = .bp (m.nb + 1) 0 := by unfold F.only; rw [if_pos (by simp)]; exact f7
  obtain ⟨ms, hms⟩ : ∃ ms, m.ext [some [.v (.int .u8 0), .v (.string ⟨#[]⟩)], some [.v .nilIface]] = ms := ⟨_, rfl⟩
  refine ⟨fun m2 => ∃ t, Q = .ok t ∧ m2 = m.ext [some [.v (.int .u8 t.kind), .v (.string t.name)], some [.v .nilIface]], fun v m2 => ∃ l c, Q = .bad l c ∧ v = pStop l c ∧ m2 = ms, ?_, ?_, ?_⟩
  ·rw [hms]
   (repeat revert X); refine wE (And.intro tfTeE (And.intro f1' (And.intro f3 f5))) ?_; repeat intro X hX
   refine callP (hen ms) ?_ ?_
   ·rintro v m' ⟨l, c, h1, rfl, rfl⟩
    exact ⟨l, c, h1, rfl, rfl⟩
   rintro v m' ⟨t, h1, rfl, hm'⟩
   rw [hm', ← hms]
   refine wS (And.intro tfTeE (And.intro f6 f7)) ?_
   (repeat (first | refine aRet ?_; try simp only [slx, ↓reduceIte, jA, reduceCtorEq] | apply hX; clear hX X))
   exact ⟨.inr trivial, t, h1, rfl⟩
  ·rintro m2 ⟨t, hq, rfl⟩
   rw [hargs]
   refine (caught_ret _ _).mono ?_
   rintro m3 rfl
   simp only [Tryz.results9, aRes_n, aRes_t, aRes_c]
   refine wS (And.intro tfTeE (And.intro k6 k7)) ?_
   rw [hq]
   exact ⟨rfl, rfl⟩
  ·rintro v m2 ⟨l, c, hq, rfl, hm2⟩
   rw [hargs, hm2]
   have hgs : ms.get (m.nb + 1) = some [.v .nilIface] := by rw [← hms]; exact ext_get (i := 1) rfl
   refine (caught_pan (m.nb + 1) _ l c _ hgs).mono ?_
   rintro m3 rfl
   simp only [Tryz.results9, aRes_n, aRes_t, aRes_c]
   rw [← hms, ext_upd (i := 1) rfl]
   refine wS (And.intro tfTeE (And.intro k6 k7)) ?_
   rw [hq]
   exact ⟨rfl, rfl⟩

def tfTeF := tfAbFv
section
variable (l c : Int) (m : M)
set_option maxHeartbeats 1000000 in
theorem where_at (k : Int) : ACalls Tryz.prog 11 [pA l c k] m (fun v m' => v = .ag [.v (.int .i64 l), .v (.int .i64 c)] ∧ m' = m) := by
 refine eN [2, 3] Tryz.func11 ?_
 (repeat revert X); refine wE tfTeF ?_; repeat intro X hX
 obtain ⟨I, hI⟩ : ∃ I : F → M → Prop, ∀ f m', I f m' = (f 0 = pA l c k ∧ f 2 = .bp m.nb 0 ∧ m' = m.ext [some [.v (.int .i64 0), .v (.int .i64 0)]]) := ⟨_, fun _ _ => rfl⟩
 refine aLoop I (fun _ _ => 0) ?_ ?_
 ·rw [hI]; exact ⟨rfl, rfl, rfl⟩
 intro f m' hrel
 rw [hI] at hrel
 obtain ⟨f0, f2, rfl⟩ := hrel
 (repeat revert X); refine wE (And.intro tfTeF f0) ?_; repeat intro X hX
 refine callM (as_any _ _ (m.nb + 1) (.v (.pointer none)) (ext_get (i := 1) rfl)) ?_
 rintro v m' ⟨rfl, rfl⟩
 refine wS tfTeF ?_
 (repeat revert X); refine wE (And.intro tfTeF f2) ?_; repeat intro X hX
 refine wQ Tryz.results11 (And.intro tfTeF f2) ?_
 exact leave_ext rfl ⟨rfl, rfl⟩
set_option maxHeartbeats 1000000 in
theorem kind_at7 : ACalls Tryz.prog 12 [pA l c 7] m (fun v m' => v = .v (.int .i64 7) ∧ m' = m) := by
 refine eN [] Tryz.func12 ?_
 (repeat revert X); refine wE tfTeF ?_; repeat intro X hX
 obtain ⟨I, hI⟩ : ∃ I : F → M → Prop, ∀ f m', I f m' = (∃ k : Nat, 1 ≤ k ∧ k ≤ 7 ∧ f 0 = pA l c 7 ∧ f 3 = pI k ∧ m' = m) := ⟨_, fun _ _ => rfl⟩
 refine aLoop I (fun f m => 10 - numOf (f 3)) ?_ ?_
 ·rw [hI]; exact ⟨1, by omega, by omega, rfl, rfl, rfl⟩
 intro f m' hrel
 rw [hI] at hrel
 obtain ⟨k, hk1, hk2, f0, f3, rfl⟩ := hrel
 have c1 : decide ((k : Int) ≤ 12) = true := by simp; omega
 have hi : IntKind.i64.wrap ((k : Int) + 1) = ((k + 1 : Nat) : Int) := by rw [wrap64 (by omega)]; omega
 have hme : numOf (f 3) = k := by rw [f3]; exact Int.toNat_natCast k
 (repeat revert X); refine wE (And.intro tfTeF (And.intro f0 (And.intro f3 (And.intro @pI.eq_1 c1)))) ?_; repeat intro X hX
 refine callE (is_any _ (k : Int) 7 m' rfl) ?_
 cases c2 : ((7 : Int) == (k : Int)) with
 | true =>
  obtain rfl : k = 7 := by simp at c2; omega
  refine wS aEQ_t ?_
  (repeat revert X); refine wE (And.intro f3 @pI.eq_1) ?_; repeat intro X hX
  refine wR Tryz.results12 ?_
  exact leave_same rfl ⟨rfl, rfl⟩
 | false =>
  have hne : k ≠ 7 := by rintro rfl; simp at c2
  refine wS aEQ_t ?_
  (repeat (first | refine aSkip ?_ | (first | apply aReg | apply aIf); simp -implicitDefEqProofs only [↓slp, slb, ↓reduceIte, jA, f3, pI, hi] | apply hX; clear hX X))
  rw [hI]
  exact ⟨⟨k + 1, by omega, by omega, f0, rfl, rfl⟩, by omega⟩
end
end Go.Proofs.YthhhnfjcaicjnaaGreatDoor
