/-
 Texts that belong together: TeL, TeX.
-/
-- halved
import Derived.Test.YthhhnfjcaicjnaaGreatDoorTqA
import Derived.Test.YthhhnfjcaicjnaaGreatDoorTcA
import Derived.Test.YthhhnfjcaicjnaaGreatDoorAbMac
set_option linter.unusedVariables false
set_option linter.unusedSimpArgs false
namespace Go.Proofs.YthhhnfjcaicjnaaGreatDoor
open Nat renaming reduceEqDiff → jA, reduceAdd → jB, reduceMul → jC, reduceLT → jD, reduceLeDiff → jE, reduceBEq → jF, reduceBNe → jG
open Int renaming reduceLE → jH, reduceLT → jI, reduceToNat → jJ, reduceEq → jK
open Go
set_option maxRecDepth 20000
set_option linter.defProp false
def tfTeL := tfTeR

def RxP (Q : TR) (s : Bool × Int × Int) (t : Ty) (s' : Bool × Int × Int) : Prop := (s.1 = true ∧ s' = s) ∨ (s.1 = false ∧ ((Q = .ok t ∧ s' = s) ∨ ∃ l c, Q = .bad l c ∧ s' = (true, l, c)))
def KxP (R : List Ty ⊕ (Int × Int)) (s sk : Bool × Int × Int) (Ts : List Ty) (T : List Ty ⊕ (Int × Int)) : Prop := (s.1 = true ∧ sk = s) ∨ (s.1 = false ∧ ((sk = s ∧ R = preT Ts T) ∨ ∃ l c, R = .inr (l, c) ∧ sk = (true, l, c)))
theorem kx_step {E : List En} {V : List Va} {R : List Ty ⊕ (Int × Int)} {s sk s' : Bool × Int × Int} {Ts : List Ty} {l : List Ex} {k : Nat} {t : Ty} (h : k < l.length) (hk : KxP R s sk Ts (tysF E V (l.drop k))) (hx : RxP (tyF E V l[k]) sk t s') : KxP R s s' (Ts ++ [t]) (tysF E V (l.drop (k + 1))) := by
 rcases hk with ⟨h1, rfl⟩ | ⟨h1, ⟨rfl, hR⟩ | ⟨a, b, hR, rfl⟩⟩
 ·rcases hx with ⟨_, rfl⟩ | ⟨h2, _⟩
  ·exact .inl ⟨h1, rfl⟩
  ·rw [h1] at h2; cases h2
 ·rw [tysF_drop E V h Ts] at hR
  rcases hx with ⟨h2, _⟩ | ⟨_, ⟨hq, rfl⟩ | ⟨a, b, hq, rfl⟩⟩
  ·rw [h1] at h2; cases h2
  ·rw [hq] at hR; exact .inr ⟨h1, .inl ⟨rfl, hR⟩⟩
  ·rw [hq] at hR; exact .inr ⟨h1, .inr ⟨a, b, hR, rfl⟩⟩
 ·rcases hx with ⟨_, rfl⟩ | ⟨h2, _⟩
  ·exact .inr ⟨h1, .inr ⟨a, b, hR, rfl⟩⟩
  ·cases h2
theorem hasS_snoc (s a : Str) : ∀ l : List Str, hasS (l ++ [a]) s = (hasS l s || eqS a s)
 | [] => by rw [List.nil_append, hasS_cons, hasS_nil, Bool.or_false, Bool.false_or]
 | b :: l => by rw [List.cons_append, hasS_cons, hasS_cons, hasS_snoc s a l, Bool.or_assoc]
theorem rx_ok {Q : TR} {x y : Int} {t : Ty} (h : Q = .ok t) : RxP Q (false, x, y) t (false, x, y) := .inr ⟨rfl, .inl ⟨h, rfl⟩⟩
theorem rx_bad {Q : TR} {x y l c : Int} {t : Ty} (h : Q = .bad l c) : RxP Q (false, x, y) t (true, l, c) := .inr ⟨rfl, .inr ⟨l, c, h, rfl⟩⟩
def RX (p : List En × List No) (V : List Va) (e : Ex) : Prop := e.ar p.1 → ∀ (a : Nat) (m : M), a < m.nb → ∀ s : Bool × Int × Int, ACalls Tryz.prog 29 [.bp a 0, .sl .no (V.map Va.pv), e.pv] (lst p a m s) (fun v m' => ∃ t s', v = Ty.pv t ∧ m' = lst p a m s' ∧ RxP (tyF p.1 V e) s t s')
set_option maxHeartbeats 16000000 in
theorem rex_step (p : List En × List No) (V : List Va) (e : Ex) (IH : ∀ i (h : i < e.kids.length), RX p V e.kids[i]) : RX p V e := by
 intro har a m hA s
 obtain ⟨hk0, hks⟩ := Ex.ar_x har
 clear har
 have hty := tyF_eq p.1 V e
 have IH := fun (i : Nat) (h : i < e.kids.length) => IH i h (Ex.ars_mem hks _ (List.getElem_mem h))
 obtain ⟨R, hR⟩ : ∃ R, tysF p.1 V e.kids = R := ⟨_, rfl⟩
 rw [hR] at hty
 obtain ⟨Q, hQ⟩ : ∃ Q, tyF p.1 V e = Q := ⟨_, rfl⟩
 rw [hQ]
 rw [hQ] at hty
 clear hQ
 refine ACalls.enter (mu := [6]) ok_mix Tryz.func29 rfl (by kernel_rfl) (by kernel_rfl) (by simp only [List.length_cons, List.length_nil, Tryz.ntmps29]; omega) ?_
 (repeat (first | refine aSeq fun X hX => ?_ | refine aBlk ?_ | refine aReg ?_; simp -implicitDefEqProofs only [forall_eq, ↓slp, slb, ↓reduceIte, reduceCtorEq, jA, jB, jC, jD, jE, jF, jG, jH, jI, jJ, jK, tfTeL, hA]; try simp only [fo] | apply hX; clear hX X))
 obtain ⟨I, hI⟩ : ∃ I : F → M → Prop, ∀ f m', I f m' = (∃ (k : Nat) (o : Own) (mm : M) (Ts : List Ty) (sk : Bool × Int × Int), k ≤ e.kids.length ∧ Ts.length = k ∧ KxP R s sk Ts (tysF p.1 V (e.kids.drop k)) ∧ f 0 = .bp a 0 ∧ f 1 = .sl .no (V.map Va.pv) ∧ f 5 = .ep e.cs ∧ f 6 = .bp m.nb 0 ∧ f 7 = .sl o (Ts.map Ty.pv) ∧ f 8 = pI k ∧ Toks m mm ∧ Mine m mm o 2 ∧ m' = lst p a (mm.ext [some [.v (.int .u8 0), .v (.string ⟨#[]⟩)]]) sk) := ⟨_, fun _ _ => rfl⟩
 refine aLoop I (fun f m => e.kids.length - numOf (f 8)) ?_ ?_
 ·rw [hI]; exact ⟨0, .full, m, [], s, by omega, rfl, (by
    rw [List.drop_zero, hR]
    cases hs : s.1 with
    | true => exact .inl ⟨hs, rfl⟩
    | false => exact .inr ⟨hs, .inl ⟨rfl, by cases R <;> rfl⟩⟩), rfl, rfl, rfl, rfl, rfl, rfl, .refl _, .full, rfl⟩
 clear hR
 intro f m' hrel
 rw [hI] at hrel
 obtain ⟨k, o, mm, Ts, sk, hk, hll, hKx, f0, f1, f5, f6, f7, f8, htk, hmi, rfl⟩ := hrel
 have hnb := htk.nb
 have hAm : a < mm.nb := by omega
 rw [← hnb] at f6
 cases c0 : decide ((k : Int) < (e.kids.length : Int)) with
 | true =>
  have hlt : k < e.kids.length := by simpa using c0
  have hkb := hk0.2.2.2.2.2.2.2.2.2.2.2
  have g0 := getD_map Ex.pv e.kids k hlt
  have hi : IntKind.i64.wrap ((k : Int) + 1) = ((k + 1 : Nat) : Int) := by rw [wrap64 (by omega)]; omega
  have hme : numOf (f 8) = k := by rw [f8]; exact Int.toNat_natCast k
  have hx := IH k hlt
  have hst := fun (t : Ty) (s' : Bool × Int × Int) => kx_step (s' := s') (t := t) hlt hKx
  generalize e.kids[k] = x at *
  have htl := ty_len Ts
  have hfr := hmi.free
  have hmx : Ts.length + 1 ≤ maxLen := by have := hk0.2.2.2.2.2.2.2.2.2.2.2; unfold maxLen; omega
  have hby : (Ts.length + 1) * 24 ≤ 140737488355328 := by have := hk0.2.2.2.2.2.2.2.2.2.2.2; omega
  (repeat (first | refine aSeq fun X hX => ?_ | refine aBlk ?_ | refine aSkip ?_ | (first | apply aReg | apply aIf); simp -implicitDefEqProofs only [forall_eq, ↓slp, slb, ↓reduceIte, reduceCtorEq, jA, jB, jC, jD, jE, jF, jG, jH, jI, jJ, jK, tfTeL, f0, f1, f5, f6, f7, f8, pI, c0, g0, hAm]; try simp only [fo] | apply hX; clear hX X | intro hlen; unfold maxLen at hlen | apply And.intro; focus omega))
  refine callM (hx a _ (by rw [ext_nb]; omega) _) ?_
  rintro v mq ⟨t, s', rfl, rfl, hP⟩
  simp -implicitDefEqProofs only [↓slp, slb, ↓reduceIte, reduceCtorEq, jA, jB, jC, jD, jE, jF, jG, jH, jI, jJ, jK, tfTeL, f0, f1, f5, f6, f7, f8, pI, hAm]; try simp only [fo]
  refine ⟨⟨hfr, htl, hmx, hby⟩, ?_⟩
  (repeat (first | refine aReg ?_; simp -implicitDefEqProofs only [forall_eq, ↓slp, slb, ↓reduceIte, reduceCtorEq, jA, jB, jC, jD, jE, jF, jG, jH, jI, jJ, jK, tfTeL, f8, pI, hi]; try simp only [fo] | apply hX; clear hX X))
  rw [hI]
  exact ⟨⟨k + 1, .tok mm.nt, _, Ts ++ [t], s', hlt, by rw [List.length_append, hll]; rfl, hst t s' hP, f0, f1, f5, by rw [← hnb]; exact f6, by rw [List.map_append]; rfl, rfl, htk.use hmi, Mine.new htk o 2, rfl⟩, by omega⟩
 | false =>
  have hk' : k = e.kids.length := by simp at c0; omega
  subst hk'
  clear hI IH
  rw [List.drop_length, tysF] at hKx
  cases hsk : sk.1 with
  | true =>
   have hRx : RxP Q s tyZ sk := by
    rcases hKx with ⟨h1, h2⟩ | ⟨h1, ⟨rfl, _⟩ | ⟨l, c, h2, h3⟩⟩
    ·exact .inl ⟨h1, h2⟩
    ·rw [h1] at hsk; cases hsk
    ·rw [h2] at hty; exact .inr ⟨h1, .inr ⟨l, c, hty, h3⟩⟩
   (repeat (first | refine aSeq fun X hX => ?_ | (first | refine aExit ?_ | refine aRet ?_); try simp only [slx, ↓reduceIte, jA, reduceCtorEq] | (first | apply aReg | apply aIf); simp -implicitDefEqProofs only [forall_eq, ↓slp, slb, ↓reduceIte, reduceCtorEq, jA, jB, jC, jD, jE, jF, jG, jH, jI, jJ, jK, tfTeL, f0, f1, f5, f6, f7, f8, pI, c0, hAm, hsk] | apply hX; clear hX X | clear hX X; apply hX; clear hX X | intro hlen; unfold maxLen at hlen))
   simp only [aPost, Tryz.results29, aRes_n, aRes_t, aRes_c, pack_one, pack_two]
   simp -implicitDefEqProofs only [↓slp, slb, ↓reduceIte, reduceCtorEq, jA, jB, jC, jD, jE, jF, jG, jH, jI, jJ, jK, tfTeL, f6, hAm]
   exact leave_lst hA htk rfl ⟨tyZ, sk, rfl, rfl, hRx⟩
  | false =>
  have hRt : R = .inl Ts ∧ sk = s ∧ s.1 = false := by
   rcases hKx with ⟨h1, rfl⟩ | ⟨h1, ⟨rfl, h2⟩ | ⟨l, c, h2, rfl⟩⟩
   ·rw [h1] at hsk; cases hsk
   ·exact ⟨by rw [h2, preT, List.append_nil], rfl, h1⟩
   ·cases hsk
  obtain ⟨hRt, rfl, _⟩ := hRt
  clear hKx
  obtain ⟨sb, l0, c1⟩ := sk
  simp only at hsk
  subst hsk
  rw [hRt] at hty
  simp only [] at hty
  clear hRt
  obtain ⟨hkr, hk3, hk6, hk7, hk8, hk9, hk10, hk12, hk13, hko, hkb⟩ := hk0
  have hfv := fun m => rFind_any .no V e.name m
  have hof := fun (h : ¬ findVar V e.name < 0) m => rof_any V e.name h m
  have hfl := fun (m1 : M) (h : a < m1.nb) (s1 : Bool × Int × Int) => lfail_any p a m1 h s1 e.line e.col
  have hfs : failS (false, l0, c1) e.line e.col = (true, e.line, e.col) := rfl
  have hft : failS (true, e.line, e.col) e.line e.col = (true, e.line, e.col) := rfl
  have : e.kind = 1 ∨ e.kind = 2 ∨ e.kind = 3 ∨ e.kind = 4 ∨ e.kind = 5 ∨ e.kind = 6 ∨ e.kind = 7 ∨ e.kind = 8 ∨ e.kind = 9 ∨ e.kind = 10 ∨ e.kind = 11 ∨ e.kind = 12 ∨ e.kind = 13 := by omega
  rcases this with hk | hk | hk | hk | hk | hk | hk | hk | hk | hk | hk | hk | hk
  ·have cs := kd1 hk
   have hq : Q = .ok ⟨2, ⟨#[]⟩⟩ := by rw [hty, hk]; rfl
   (repeat (first | refine aSeq fun X hX => ?_ | refine aSkip ?_ | (first | refine aExit ?_ | refine aRet ?_); try simp only [slx, ↓reduceIte, jA, reduceCtorEq] | (first | apply aReg | apply aIf); simp -implicitDefEqProofs only [forall_eq, ↓slp, slb, ↓reduceIte, reduceCtorEq, jA, jB, jC, jD, jE, jF, jG, jH, jI, jJ, jK, tfTeL, f0, f1, f5, f6, f7, f8, pI, c0, hAm, cs]; try simp only [fo] | apply hX; clear hX X | clear hX X; apply hX; clear hX X | intro hlen; unfold maxLen at hlen))
   simp only [aPost, Tryz.results29, aRes_n, aRes_t, aRes_c, pack_one, pack_two]
   simp -implicitDefEqProofs only [↓slp, slb, ↓reduceIte, reduceCtorEq, jA, jB, jC, jD, jE, jF, jG, jH, jI, jJ, jK, tfTeL, f6, hAm]
   exact leave_lst hA htk rfl ⟨_, _, rfl, rfl, rx_ok hq⟩
  ·have cs := kd2 hk
   have hq : Q = .ok ⟨1, ⟨#[]⟩⟩ := by rw [hty, hk]; rfl
   (repeat (first | refine aSeq fun X hX => ?_ | refine aSkip ?_ | (first | refine aExit ?_ | refine aRet ?_); try simp only [slx, ↓reduceIte, jA, reduceCtorEq] | (first | apply aReg | apply aIf); simp -implicitDefEqProofs only [forall_eq, ↓slp, slb, ↓reduceIte, reduceCtorEq, jA, jB, jC, jD, jE, jF, jG, jH, jI, jJ, jK, tfTeL, f0, f1, f5, f6, f7, f8, pI, c0, hAm, cs]; try simp only [fo] | apply hX; clear hX X | clear hX X; apply hX; clear hX X | intro hlen; unfold maxLen at hlen))
   simp only [aPost, Tryz.results29, aRes_n, aRes_t, aRes_c, pack_one, pack_two]
   simp -implicitDefEqProofs only [↓slp, slb, ↓reduceIte, reduceCtorEq, jA, jB, jC, jD, jE, jF, jG, jH, jI, jJ, jK, tfTeL, f6, hAm]
   exact leave_lst hA htk rfl ⟨_, _, rfl, rfl, rx_ok hq⟩
  ·have cs := kd3 hk
   have h3 := hk3 hk
   have h3b : ctorEn p.1 e.name < (p.1.length : Int) := idxF_lt p.1
   obtain ⟨j, hj⟩ : ∃ j : Nat, ctorEn p.1 e.name = (j : Int) := ⟨(ctorEn p.1 e.name).toNat, by omega⟩
   have hlj : j < p.1.length := by omega
   have gj := getD_map En.pv p.1 j hlj
   have hce := fun m => rctorAt_any p.1 e.name m
   rw [hj] at hce
   have hq : Q = .ok ⟨3, p.1[j].name⟩ := by
    rw [hty, hk]
    show TR.ok ⟨3, (p.1.getD (ctorEn p.1 e.name).toNat enZ).name⟩ = _
    rw [hj, Int.toNat_natCast, List.getD_eq_getElem?_getD, List.getElem?_eq_getElem hlj]; rfl
   (repeat (first | refine aSeq fun X hX => ?_ | refine aSkip ?_ | refine aExit ?_; try simp only [slx, ↓reduceIte, jA, reduceCtorEq] | (first | apply aReg | refine aDrE ?_ | apply aIf); simp -implicitDefEqProofs only [forall_eq, ↓slp, slb, ↓reduceIte, reduceCtorEq, jA, jB, jC, jD, jE, jF, jG, jH, jI, jJ, jK, tfTeL, f0, f1, f5, f6, f7, f8, pI, c0, hAm, cs]; try simp only [fo] | apply hX; clear hX X | clear hX X; apply hX; clear hX X | intro hlen; unfold maxLen at hlen))
   refine callM (hce _) ?_
   rintro v mq ⟨j2, rfl, rfl⟩
   refine ⟨rfl, ?_⟩
   simp -implicitDefEqProofs only [↓slp, slb, ↓reduceIte, reduceCtorEq, jA, jB, jC, jD, jE, jF, jG, jH, jI, jJ, jK, tfTeL, f0, f1, f5, f6, f7, hAm, pI, gj, hlj]; try simp only [fo]
   (repeat (first | refine aSeq fun X hX => ?_ | refine aRet ?_; try simp only [slx, ↓reduceIte, jA, reduceCtorEq] | refine aReg ?_; simp -implicitDefEqProofs only [forall_eq, ↓slp, slb, ↓reduceIte, reduceCtorEq, jA, jB, jC, jD, jE, jF, jG, jH, jI, jJ, jK, tfTeL, f0, f1, f5, f6, f7, hAm, cs, gj, hlj]; try simp only [fo] | apply hX; clear hX X))
   simp only [aPost, Tryz.results29, aRes_n, aRes_t, aRes_c, pack_one, pack_two]
   simp -implicitDefEqProofs only [↓slp, slb, ↓reduceIte, reduceCtorEq, jA, jB, jC, jD, jE, jF, jG, jH, jI, jJ, jK, tfTeL, f6, hAm]
   exact leave_lst hA htk rfl ⟨_, _, rfl, rfl, rx_ok hq⟩
  ·have cs := kd4 hk
   cases cn : decide (findVar V e.name < 0) with
   | true =>
    have hq : Q = .bad e.line e.col := by rw [hty, hk]; unfold finF; rw [cn]; rfl
    (repeat (first | refine aSeq fun X hX => ?_ | refine aSkip ?_ | refine aExit ?_; try simp only [slx, ↓reduceIte, jA, reduceCtorEq] | (first | apply aReg | apply aIf); simp -implicitDefEqProofs only [forall_eq, ↓slp, slb, ↓reduceIte, reduceCtorEq, jA, jB, jC, jD, jE, jF, jG, jH, jI, jJ, jK, tfTeL, f0, f1, f5, f6, f7, f8, pI, c0, hAm, cs]; try simp only [fo] | apply hX; clear hX X | clear hX X; apply hX; clear hX X | intro hlen; unfold maxLen at hlen))
    refine callE (hfv _) ?_
    simp -implicitDefEqProofs only [↓slp, slb, ↓reduceIte, reduceCtorEq, jA, jB, jC, jD, jE, jF, jG, jH, jI, jJ, jK, tfTeL, f0, f1, f5, f6, f7, hAm, pI, cn]; try simp only [fo]
    (repeat (first | refine aSeq fun X hX => ?_ | (first | apply aReg | apply aIf); simp -implicitDefEqProofs only [forall_eq, ↓slp, slb, ↓reduceIte, reduceCtorEq, jA, jB, jC, jD, jE, jF, jG, jH, jI, jJ, jK, tfTeL, f0, f1, f5, f6, f7, hAm, cs, cn]; try simp only [fo] | apply hX; clear hX X))
    refine callE (hfl _ (by first | assumption | (rw [ext_nb]; omega)) _) ?_
    rw [hfs]
    simp -implicitDefEqProofs only [↓slp, slb, ↓reduceIte, reduceCtorEq, jA, jB, jC, jD, jE, jF, jG, jH, jI, jJ, jK, tfTeL, f0, f1, f5, f6, f7, hAm]; try simp only [fo]
    (repeat (first | refine aSeq fun X hX => ?_ | refine aRet ?_; try simp only [slx, ↓reduceIte, jA, reduceCtorEq] | refine aReg ?_; simp -implicitDefEqProofs only [forall_eq, ↓slp, slb, ↓reduceIte, reduceCtorEq, jA, jB, jC, jD, jE, jF, jG, jH, jI, jJ, jK, tfTeL, f0, f1, f5, f6, f7, hAm, cs]; try simp only [fo] | apply hX; clear hX X))
    simp only [aPost, Tryz.results29, aRes_n, aRes_t, aRes_c, pack_one, pack_two]
    simp -implicitDefEqProofs only [↓slp, slb, ↓reduceIte, reduceCtorEq, jA, jB, jC, jD, jE, jF, jG, jH, jI, jJ, jK, tfTeL, f6, hAm]
    exact leave_lst hA htk rfl ⟨_, _, rfl, rfl, rx_bad (t := tyZ) hq⟩
   | false =>
    have hq : Q = .ok (tyOf V e.name) := by rw [hty, hk]; unfold finF; rw [cn]; rfl
    have hov := hof (by simpa using cn)
    (repeat (first | refine aSeq fun X hX => ?_ | refine aSkip ?_ | refine aExit ?_; try simp only [slx, ↓reduceIte, jA, reduceCtorEq] | (first | apply aReg | apply aIf); simp -implicitDefEqProofs only [forall_eq, ↓slp, slb, ↓reduceIte, reduceCtorEq, jA, jB, jC, jD, jE, jF, jG, jH, jI, jJ, jK, tfTeL, f0, f1, f5, f6, f7, f8, pI, c0, hAm, cs]; try simp only [fo] | apply hX; clear hX X | clear hX X; apply hX; clear hX X | intro hlen; unfold maxLen at hlen))
    refine callE (hfv _) ?_
    simp -implicitDefEqProofs only [↓slp, slb, ↓reduceIte, reduceCtorEq, jA, jB, jC, jD, jE, jF, jG, jH, jI, jJ, jK, tfTeL, f0, f1, f5, f6, f7, hAm, pI, cn]; try simp only [fo]
    (repeat (first | refine aSeq fun X hX => ?_ | refine aSkip ?_ | (first | apply aReg | apply aIf); simp -implicitDefEqProofs only [forall_eq, ↓slp, slb, ↓reduceIte, reduceCtorEq, jA, jB, jC, jD, jE, jF, jG, jH, jI, jJ, jK, tfTeL, f0, f1, f5, f6, f7, f8, pI, c0, hAm, cs, cn]; try simp only [fo] | apply hX; clear hX X))
    refine callE (hov _) ?_
    simp -implicitDefEqProofs only [↓slp, slb, ↓reduceIte, reduceCtorEq, jA, jB, jC, jD, jE, jF, jG, jH, jI, jJ, jK, tfTeL, f0, f1, f5, f6, f7, hAm]; try simp only [fo]
    (repeat (first | refine aRet ?_; try simp only [slx, ↓reduceIte, jA, reduceCtorEq] | apply hX; clear hX X))
    simp only [aPost, Tryz.results29, aRes_n, aRes_t, aRes_c, pack_one, pack_two]
    simp -implicitDefEqProofs only [↓slp, slb, ↓reduceIte, reduceCtorEq, jA, jB, jC, jD, jE, jF, jG, jH, jI, jJ, jK, tfTeL, f6, hAm]
    exact leave_lst hA htk rfl ⟨_, _, rfl, rfl, rx_ok hq⟩
  ·have cs := kd5 hk
   cases cn : decide (findVar V e.name < 0) with
   | true =>
    have hq : Q = .bad e.line e.col := by rw [hty, hk]; unfold finF; rw [cn]; rfl
    (repeat (first | refine aSeq fun X hX => ?_ | refine aSkip ?_ | refine aExit ?_; try simp only [slx, ↓reduceIte, jA, reduceCtorEq] | (first | apply aReg | apply aIf); simp -implicitDefEqProofs only [forall_eq, ↓slp, slb, ↓reduceIte, reduceCtorEq, jA, jB, jC, jD, jE, jF, jG, jH, jI, jJ, jK, tfTeL, f0, f1, f5, f6, f7, f8, pI, c0, hAm, cs]; try simp only [fo] | apply hX; clear hX X | clear hX X; apply hX; clear hX X | intro hlen; unfold maxLen at hlen))
    refine callE (hfv _) ?_
    simp -implicitDefEqProofs only [↓slp, slb, ↓reduceIte, reduceCtorEq, jA, jB, jC, jD, jE, jF, jG, jH, jI, jJ, jK, tfTeL, f0, f1, f5, f6, f7, hAm, pI, cn]; try simp only [fo]
    (repeat (first | refine aSeq fun X hX => ?_ | (first | apply aReg | apply aIf); simp -implicitDefEqProofs only [forall_eq, ↓slp, slb, ↓reduceIte, reduceCtorEq, jA, jB, jC, jD, jE, jF, jG, jH, jI, jJ, jK, tfTeL, f0, f1, f5, f6, f7, hAm, cs, cn]; try simp only [fo] | apply hX; clear hX X))
    refine callE (hfl _ (by first | assumption | (rw [ext_nb]; omega)) _) ?_
    rw [hfs]
    simp -implicitDefEqProofs only [↓slp, slb, ↓reduceIte, reduceCtorEq, jA, jB, jC, jD, jE, jF, jG, jH, jI, jJ, jK, tfTeL, f0, f1, f5, f6, f7, hAm]; try simp only [fo]
    (repeat (first | refine aSeq fun X hX => ?_ | refine aRet ?_; try simp only [slx, ↓reduceIte, jA, reduceCtorEq] | refine aReg ?_; simp -implicitDefEqProofs only [forall_eq, ↓slp, slb, ↓reduceIte, reduceCtorEq, jA, jB, jC, jD, jE, jF, jG, jH, jI, jJ, jK, tfTeL, f0, f1, f5, f6, f7, hAm, cs]; try simp only [fo] | apply hX; clear hX X))
    simp only [aPost, Tryz.results29, aRes_n, aRes_t, aRes_c, pack_one, pack_two]
    simp -implicitDefEqProofs only [↓slp, slb, ↓reduceIte, reduceCtorEq, jA, jB, jC, jD, jE, jF, jG, jH, jI, jJ, jK, tfTeL, f6, hAm]
    exact leave_lst hA htk rfl ⟨_, _, rfl, rfl, rx_bad (t := tyZ) hq⟩
   | false =>
    have hq : Q = .ok (tyOf V e.name) := by rw [hty, hk]; unfold finF; rw [cn]; rfl
    have hov := hof (by simpa using cn)
    (repeat (first | refine aSeq fun X hX => ?_ | refine aSkip ?_ | refine aExit ?_; try simp only [slx, ↓reduceIte, jA, reduceCtorEq] | (first | apply aReg | apply aIf); simp -implicitDefEqProofs only [forall_eq, ↓slp, slb, ↓reduceIte, reduceCtorEq, jA, jB, jC, jD, jE, jF, jG, jH, jI, jJ, jK, tfTeL, f0, f1, f5, f6, f7, f8, pI, c0, hAm, cs]; try simp only [fo] | apply hX; clear hX X | clear hX X; apply hX; clear hX X | intro hlen; unfold maxLen at hlen))
    refine callE (hfv _) ?_
    simp -implicitDefEqProofs only [↓slp, slb, ↓reduceIte, reduceCtorEq, jA, jB, jC, jD, jE, jF, jG, jH, jI, jJ, jK, tfTeL, f0, f1, f5, f6, f7, hAm, pI, cn]; try simp only [fo]
    (repeat (first | refine aSeq fun X hX => ?_ | refine aSkip ?_ | (first | apply aReg | apply aIf); simp -implicitDefEqProofs only [forall_eq, ↓slp, slb, ↓reduceIte, reduceCtorEq, jA, jB, jC, jD, jE, jF, jG, jH, jI, jJ, jK, tfTeL, f0, f1, f5, f6, f7, f8, pI, c0, hAm, cs, cn]; try simp only [fo] | apply hX; clear hX X))
    refine callE (hov _) ?_
    simp -implicitDefEqProofs only [↓slp, slb, ↓reduceIte, reduceCtorEq, jA, jB, jC, jD, jE, jF, jG, jH, jI, jJ, jK, tfTeL, f0, f1, f5, f6, f7, hAm]; try simp only [fo]
    (repeat (first | refine aRet ?_; try simp only [slx, ↓reduceIte, jA, reduceCtorEq] | apply hX; clear hX X))
    simp only [aPost, Tryz.results29, aRes_n, aRes_t, aRes_c, pack_one, pack_two]
    simp -implicitDefEqProofs only [↓slp, slb, ↓reduceIte, reduceCtorEq, jA, jB, jC, jD, jE, jF, jG, jH, jI, jJ, jK, tfTeL, f6, hAm]
    exact leave_lst hA htk rfl ⟨_, _, rfl, rfl, rx_ok hq⟩
  ·have cs := kd6 hk
   have hop := fun m => rtypes_any (hko (by omega)).1 (hko (by omega)).2 m
   have h0 : 0 < Ts.length := by omega
   have hq : Q = if opOk (opIn e.op) (Ts.getD 0 tyZ) Ts then .ok ⟨opOut e.op, ⟨#[]⟩⟩ else .bad e.line e.col := by rw [hty, hk]; rfl
   generalize opIn e.op = i at *
   generalize opOut e.op = u at *
   obtain ⟨R2, hR2⟩ : ∃ R2, opOk i (Ts.getD 0 tyZ) Ts = R2 := ⟨_, rfl⟩
   rw [hR2] at hq
   (repeat (first | refine aSeq fun X hX => ?_ | refine aSkip ?_ | refine aExit ?_; try simp only [slx, ↓reduceIte, jA, reduceCtorEq] | (first | apply aReg | apply aIf); simp -implicitDefEqProofs only [forall_eq, ↓slp, slb, ↓reduceIte, reduceCtorEq, jA, jB, jC, jD, jE, jF, jG, jH, jI, jJ, jK, tfTeL, f0, f1, f5, f6, f7, f8, pI, c0, hAm, cs]; try simp only [fo] | apply hX; clear hX X | clear hX X; apply hX; clear hX X | intro hlen; unfold maxLen at hlen))
   refine callE (hop _) ?_
   simp -implicitDefEqProofs only [↓slp, slb, ↓reduceIte, reduceCtorEq, jA, jB, jC, jD, jE, jF, jG, jH, jI, jJ, jK, tfTeL, f0, f1, f5, f6, f7, hAm]; try simp only [fo]
   (repeat (first | refine aSeq fun X hX => ?_ | refine aBlk ?_ | refine aReg ?_; simp -implicitDefEqProofs only [forall_eq, ↓slp, slb, ↓reduceIte, reduceCtorEq, jA, jB, jC, jD, jE, jF, jG, jH, jI, jJ, jK, tfTeL, f0, f1, f5, f6, f7, hAm, cs]; try simp only [fo] | apply hX; clear hX X))
   obtain ⟨J, hJ⟩ : ∃ J : F → M → Prop, ∀ f m', J f m' = (∃ (j : Nat) (bad : Bool), j ≤ Ts.length ∧ (!bad && opOk i (Ts.getD 0 tyZ) (Ts.drop j)) = R2 ∧ f 0 = .bp a 0 ∧ f 5 = .ep e.cs ∧ f 6 = .bp mm.nb 0 ∧ f 7 = .sl o (Ts.map Ty.pv) ∧ f 13 = .v (.int .u8 i) ∧ f 14 = .v (.int .u8 u) ∧ f 15 = pI j ∧ m' = lst p a (mm.ext [some [.v (.int .u8 0), .v (.string ⟨#[]⟩)]]) (if bad then (true, e.line, e.col) else (false, l0, c1))) := ⟨_, fun _ _ => rfl⟩
   refine aLoop J (fun f m => Ts.length - numOf (f 15)) ?_ ?_
   ·rw [hJ]; exact ⟨0, false, by omega, by rw [List.drop_zero, hR2]; rfl, f0, f5, f6, f7, rfl, rfl, rfl, rfl⟩
   clear f0 f1 f5 f6 f7 f8 hR2
   intro f m' hrel
   rw [hJ] at hrel
   obtain ⟨j, bad, hj, hR2, f0, f5, f6, f7, f13, f14, f15, rfl⟩ := hrel
   cases c2 : decide ((j : Int) < (Ts.length : Int)) with
   | false =>
    have hjj : j = Ts.length := by simp at c2; omega
    subst hjj
    rw [List.drop_length, opOk, Bool.and_true] at hR2
    subst hR2
    (repeat (first | refine aSeq fun X hX => ?_ | (first | refine aExit ?_ | refine aRet ?_); try simp only [slx, ↓reduceIte, jA, reduceCtorEq] | (first | apply aReg | apply aIf); simp -implicitDefEqProofs only [forall_eq, ↓slp, slb, ↓reduceIte, reduceCtorEq, jA, jB, jC, jD, jE, jF, jG, jH, jI, jJ, jK, tfTeL, f0, f5, f6, f7, f13, f14, f15, pI, c2, hAm] | apply hX; clear hX X | clear hX X; apply hX; clear hX X | intro hlen; unfold maxLen at hlen))
    simp only [aPost, Tryz.results29, aRes_n, aRes_t, aRes_c, pack_one, pack_two]
    simp -implicitDefEqProofs only [↓slp, slb, ↓reduceIte, reduceCtorEq, jA, jB, jC, jD, jE, jF, jG, jH, jI, jJ, jK, tfTeL, f6, hAm]
    cases bad with
    | true => exact leave_lst hA htk rfl ⟨⟨u, ⟨#[]⟩⟩, _, rfl, rfl, rx_bad hq⟩
    | false => exact leave_lst hA htk rfl ⟨_, _, rfl, rfl, rx_ok hq⟩
   | true =>
    have hlt : j < Ts.length := by simpa using c2
    have g0 := getD_map Ty.pv Ts j hlt
    have g1 := getD_map Ty.pv Ts 0 h0
    have hin : IntKind.i64.wrap ((j : Int) + 1) = ((j + 1 : Nat) : Int) := by rw [wrap64 (by omega)]; omega
    have hme : numOf (f 15) = j := by rw [f15]; exact Int.toNat_natCast j
    rw [opOk_drop hlt] at hR2
    have hg := getD_cons0 Ts h0 tyZ
    rw [hg] at hR2
    unfold Ty.eq eqS at hR2
    generalize Ts[j] = x at *
    generalize Ts[0] = y at *
    cases b1 : (i == 0) <;> cases b2 : (x.kind == i) <;> cases b3 : (x.kind == y.kind) <;> cases b4 : (x.name.toList == y.name.toList)
    all_goals
     rw [b1, b2, b3, b4] at hR2
     (repeat (first | refine aSeq fun X hX => ?_ | refine aSkip ?_ | (first | apply aReg | apply aIf); simp -implicitDefEqProofs only [forall_eq, ↓slp, slb, ↓reduceIte, reduceCtorEq, jA, jB, jC, jD, jE, jF, jG, jH, jI, jJ, jK, tfTeL, f0, f5, f6, f7, f13, f14, f15, pI, c2, g0, g1, hAm] | apply hX; clear hX X | intro hlen; unfold maxLen at hlen))
     (repeat (first | refine aSkip ?_ | (first | apply aReg | refine aDrE ?_ | apply aIf); simp -implicitDefEqProofs only [forall_eq, ↓slp, slb, ↓reduceIte, reduceCtorEq, jA, jB, jC, jD, jE, jF, jG, jH, jI, jJ, jK, tfTeL, f0, f5, f6, f7, f13, f14, f15, pI, c2, g0, g1, b1, b2, b3, b4, h0, hlt, hin, hAm] | apply hX; clear hX X))
     first
      | refine callE (hfl _ (by first | assumption | (rw [ext_nb]; omega)) _) ?_
        rw [show failS (if bad = true then (true, e.line, e.col) else (false, l0, c1)) e.line e.col = (true, e.line, e.col) by cases bad <;> rfl]
        simp -implicitDefEqProofs only [↓slp, slb, ↓reduceIte, reduceCtorEq, jA, jB, jC, jD, jE, jF, jG, jH, jI, jJ, jK, tfTeL, f0, f5, f6, f7, f13, f14, f15, pI, hin, hAm]
        (repeat (first | refine aReg ?_; simp -implicitDefEqProofs only [forall_eq, ↓slp, slb, ↓reduceIte, reduceCtorEq, jA, jB, jC, jD, jE, jF, jG, jH, jI, jJ, jK, tfTeL, f0, f5, f6, f7, f13, f14, f15, pI, hin, hAm] | apply hX; clear hX X))
        rw [hJ]
        exact ⟨⟨j + 1, true, hlt, by rw [← hR2]; cases bad <;> rfl, f0, f5, f6, f7, f13, f14, rfl, rfl⟩, by omega⟩
      | rw [hJ]
        exact ⟨⟨j + 1, bad, hlt, by rw [hg, ← hR2]; simp only [Bool.true_and, Bool.or_true, Bool.true_or, Bool.and_self], f0, f5, f6, f7, f13, f14, rfl, rfl⟩, by omega⟩
  ·have cs := kd7 hk
   have hop := fun m => rtypes_any (hko (by omega)).1 (hko (by omega)).2 m
   have h0 : 0 < Ts.length := by omega
   have hq : Q = if opOk (opIn e.op) (Ts.getD 0 tyZ) Ts then .ok ⟨opOut e.op, ⟨#[]⟩⟩ else .bad e.line e.col := by rw [hty, hk]; rfl
   generalize opIn e.op = i at *
   generalize opOut e.op = u at *
   obtain ⟨R2, hR2⟩ : ∃ R2, opOk i (Ts.getD 0 tyZ) Ts = R2 := ⟨_, rfl⟩
   rw [hR2] at hq
   (repeat (first | refine aSeq fun X hX => ?_ | refine aSkip ?_ | refine aExit ?_; try simp only [slx, ↓reduceIte, jA, reduceCtorEq] | (first | apply aReg | apply aIf); simp -implicitDefEqProofs only [forall_eq, ↓slp, slb, ↓reduceIte, reduceCtorEq, jA, jB, jC, jD, jE, jF, jG, jH, jI, jJ, jK, tfTeL, f0, f1, f5, f6, f7, f8, pI, c0, hAm, cs]; try simp only [fo] | apply hX; clear hX X | clear hX X; apply hX; clear hX X | intro hlen; unfold maxLen at hlen))
   refine callE (hop _) ?_
   simp -implicitDefEqProofs only [↓slp, slb, ↓reduceIte, reduceCtorEq, jA, jB, jC, jD, jE, jF, jG, jH, jI, jJ, jK, tfTeL, f0, f1, f5, f6, f7, hAm]; try simp only [fo]
   (repeat (first | refine aSeq fun X hX => ?_ | refine aBlk ?_ | refine aReg ?_; simp -implicitDefEqProofs only [forall_eq, ↓slp, slb, ↓reduceIte, reduceCtorEq, jA, jB, jC, jD, jE, jF, jG, jH, jI, jJ, jK, tfTeL, f0, f1, f5, f6, f7, hAm, cs]; try simp only [fo] | apply hX; clear hX X))
   obtain ⟨J, hJ⟩ : ∃ J : F → M → Prop, ∀ f m', J f m' = (∃ (j : Nat) (bad : Bool), j ≤ Ts.length ∧ (!bad && opOk i (Ts.getD 0 tyZ) (Ts.drop j)) = R2 ∧ f 0 = .bp a 0 ∧ f 5 = .ep e.cs ∧ f 6 = .bp mm.nb 0 ∧ f 7 = .sl o (Ts.map Ty.pv) ∧ f 13 = .v (.int .u8 i) ∧ f 14 = .v (.int .u8 u) ∧ f 15 = pI j ∧ m' = lst p a (mm.ext [some [.v (.int .u8 0), .v (.string ⟨#[]⟩)]]) (if bad then (true, e.line, e.col) else (false, l0, c1))) := ⟨_, fun _ _ => rfl⟩
   refine aLoop J (fun f m => Ts.length - numOf (f 15)) ?_ ?_
   ·rw [hJ]; exact ⟨0, false, by omega, by rw [List.drop_zero, hR2]; rfl, f0, f5, f6, f7, rfl, rfl, rfl, rfl⟩
   clear f0 f1 f5 f6 f7 f8 hR2
   intro f m' hrel
   rw [hJ] at hrel
   obtain ⟨j, bad, hj, hR2, f0, f5, f6, f7, f13, f14, f15, rfl⟩ := hrel
   cases c2 : decide ((j : Int) < (Ts.length : Int)) with
   | false =>
    have hjj : j = Ts.length := by simp at c2; omega
    subst hjj
    rw [List.drop_length, opOk, Bool.and_true] at hR2
    subst hR2
    (repeat (first | refine aSeq fun X hX => ?_ | (first | refine aExit ?_ | refine aRet ?_); try simp only [slx, ↓reduceIte, jA, reduceCtorEq] | (first | apply aReg | apply aIf); simp -implicitDefEqProofs only [forall_eq, ↓slp, slb, ↓reduceIte, reduceCtorEq, jA, jB, jC, jD, jE, jF, jG, jH, jI, jJ, jK, tfTeL, f0, f5, f6, f7, f13, f14, f15, pI, c2, hAm] | apply hX; clear hX X | clear hX X; apply hX; clear hX X | intro hlen; unfold maxLen at hlen))
    simp only [aPost, Tryz.results29, aRes_n, aRes_t, aRes_c, pack_one, pack_two]
    simp -implicitDefEqProofs only [↓slp, slb, ↓reduceIte, reduceCtorEq, jA, jB, jC, jD, jE, jF, jG, jH, jI, jJ, jK, tfTeL, f6, hAm]
    cases bad with
    | true => exact leave_lst hA htk rfl ⟨⟨u, ⟨#[]⟩⟩, _, rfl, rfl, rx_bad hq⟩
    | false => exact leave_lst hA htk rfl ⟨_, _, rfl, rfl, rx_ok hq⟩
   | true =>
    have hlt : j < Ts.length := by simpa using c2
    have g0 := getD_map Ty.pv Ts j hlt
    have g1 := getD_map Ty.pv Ts 0 h0
    have hin : IntKind.i64.wrap ((j : Int) + 1) = ((j + 1 : Nat) : Int) := by rw [wrap64 (by omega)]; omega
    have hme : numOf (f 15) = j := by rw [f15]; exact Int.toNat_natCast j
    rw [opOk_drop hlt] at hR2
    have hg := getD_cons0 Ts h0 tyZ
    rw [hg] at hR2
    unfold Ty.eq eqS at hR2
    generalize Ts[j] = x at *
    generalize Ts[0] = y at *
    cases b1 : (i == 0) <;> cases b2 : (x.kind == i) <;> cases b3 : (x.kind == y.kind) <;> cases b4 : (x.name.toList == y.name.toList)
    all_goals
     rw [b1, b2, b3, b4] at hR2
     (repeat (first | refine aSeq fun X hX => ?_ | refine aSkip ?_ | (first | apply aReg | apply aIf); simp -implicitDefEqProofs only [forall_eq, ↓slp, slb, ↓reduceIte, reduceCtorEq, jA, jB, jC, jD, jE, jF, jG, jH, jI, jJ, jK, tfTeL, f0, f5, f6, f7, f13, f14, f15, pI, c2, g0, g1, hAm] | apply hX; clear hX X | intro hlen; unfold maxLen at hlen))
     (repeat (first | refine aSkip ?_ | (first | apply aReg | refine aDrE ?_ | apply aIf); simp -implicitDefEqProofs only [forall_eq, ↓slp, slb, ↓reduceIte, reduceCtorEq, jA, jB, jC, jD, jE, jF, jG, jH, jI, jJ, jK, tfTeL, f0, f5, f6, f7, f13, f14, f15, pI, c2, g0, g1, b1, b2, b3, b4, h0, hlt, hin, hAm] | apply hX; clear hX X))
     first
      | refine callE (hfl _ (by first | assumption | (rw [ext_nb]; omega)) _) ?_
        rw [show failS (if bad = true then (true, e.line, e.col) else (false, l0, c1)) e.line e.col = (true, e.line, e.col) by cases bad <;> rfl]
        simp -implicitDefEqProofs only [↓slp, slb, ↓reduceIte, reduceCtorEq, jA, jB, jC, jD, jE, jF, jG, jH, jI, jJ, jK, tfTeL, f0, f5, f6, f7, f13, f14, f15, pI, hin, hAm]
        (repeat (first | refine aReg ?_; simp -implicitDefEqProofs only [forall_eq, ↓slp, slb, ↓reduceIte, reduceCtorEq, jA, jB, jC, jD, jE, jF, jG, jH, jI, jJ, jK, tfTeL, f0, f5, f6, f7, f13, f14, f15, pI, hin, hAm] | apply hX; clear hX X))
        rw [hJ]
        exact ⟨⟨j + 1, true, hlt, by rw [← hR2]; cases bad <;> rfl, f0, f5, f6, f7, f13, f14, rfl, rfl⟩, by omega⟩
      | rw [hJ]
        exact ⟨⟨j + 1, bad, hlt, by rw [hg, ← hR2]; simp only [Bool.true_and, Bool.or_true, Bool.true_or, Bool.and_self], f0, f5, f6, f7, f13, f14, rfl, rfl⟩, by omega⟩
  ·have cs := kd8 hk
   obtain ⟨t1, t2, t3, rfl⟩ : ∃ t1 t2 t3, Ts = [t1, t2, t3] := by
    match Ts, hll.trans (hk8 hk) with
    | [t1, t2, t3], _ => exact ⟨t1, t2, t3, rfl⟩
   have hq : Q = if t1.kind == 1 && (t2.kind == t3.kind && t2.name.toList == t3.name.toList) then .ok t2 else .bad e.line e.col := by rw [hty, hk]; rfl
   cases b1 : (t1.kind == 1) <;> cases b2 : (t2.kind == t3.kind) <;> cases b3 : (t2.name.toList == t3.name.toList)
   all_goals
    rw [b1, b2, b3] at hq
    (repeat (first | refine aSeq fun X hX => ?_ | refine aSkip ?_ | (first | refine aExit ?_ | refine aRet ?_); try simp only [slx, ↓reduceIte, jA, reduceCtorEq] | (first | apply aReg | refine aDrE ?_ | apply aIf); simp -implicitDefEqProofs only [forall_eq, ↓slp, slb, ↓reduceIte, reduceCtorEq, jA, jB, jC, jD, jE, jF, jG, jH, jI, jJ, jK, tfTeL, f0, f1, f5, f6, f7, f8, pI, c0, hAm, cs, List.map_cons, List.map_nil, Ty.pv, b1, b2, b3]; try simp only [fo] | apply hX; clear hX X | clear hX X; apply hX; clear hX X | intro hlen; unfold maxLen at hlen))
    first
     | refine callE (hfl _ (by first | assumption | (rw [ext_nb]; omega)) _) ?_
       rw [hfs]
       simp -implicitDefEqProofs only [↓slp, slb, ↓reduceIte, reduceCtorEq, jA, jB, jC, jD, jE, jF, jG, jH, jI, jJ, jK, tfTeL, f0, f1, f5, f6, f7, hAm, List.map_cons, List.map_nil, Ty.pv]; try simp only [fo]
       (repeat (first | refine aSeq fun X hX => ?_ | refine aRet ?_; try simp only [slx, ↓reduceIte, jA, reduceCtorEq] | refine aReg ?_; simp -implicitDefEqProofs only [forall_eq, ↓slp, slb, ↓reduceIte, reduceCtorEq, jA, jB, jC, jD, jE, jF, jG, jH, jI, jJ, jK, tfTeL, f0, f1, f5, f6, f7, hAm, cs, List.map_cons, List.map_nil, Ty.pv]; try simp only [fo] | apply hX; clear hX X))
       simp only [aPost, Tryz.results29, aRes_n, aRes_t, aRes_c, pack_one, pack_two]
       simp -implicitDefEqProofs only [↓slp, slb, ↓reduceIte, reduceCtorEq, jA, jB, jC, jD, jE, jF, jG, jH, jI, jJ, jK, tfTeL, f6, hAm]
       exact leave_lst hA htk rfl ⟨t2, _, rfl, rfl, rx_bad hq⟩
     | simp only [aPost, Tryz.results29, aRes_n, aRes_t, aRes_c, pack_one, pack_two]
       simp -implicitDefEqProofs only [↓slp, slb, ↓reduceIte, reduceCtorEq, jA, jB, jC, jD, jE, jF, jG, jH, jI, jJ, jK, tfTeL, f6, hAm]
       exact leave_lst hA htk rfl ⟨_, _, rfl, rfl, rx_ok hq⟩
  ·have cs := kd9 hk
   obtain ⟨t1, t2, rfl⟩ : ∃ t1 t2, Ts = [t1, t2] := by
    match Ts, hll.trans (hk9 (by omega)) with
    | [t1, t2], _ => exact ⟨t1, t2, rfl⟩
   have hq : Q = if t1.kind == t2.kind && t1.name.toList == t2.name.toList then .ok t1 else .bad e.line e.col := by rw [hty, hk]; rfl
   cases b2 : (t1.kind == t2.kind) <;> cases b3 : (t1.name.toList == t2.name.toList)
   all_goals
    rw [b2, b3] at hq
    (repeat (first | refine aSeq fun X hX => ?_ | refine aSkip ?_ | (first | refine aExit ?_ | refine aRet ?_); try simp only [slx, ↓reduceIte, jA, reduceCtorEq] | (first | apply aReg | refine aDrE ?_ | apply aIf); simp -implicitDefEqProofs only [forall_eq, ↓slp, slb, ↓reduceIte, reduceCtorEq, jA, jB, jC, jD, jE, jF, jG, jH, jI, jJ, jK, tfTeL, f0, f1, f5, f6, f7, f8, pI, c0, hAm, cs, List.map_cons, List.map_nil, Ty.pv, b2, b3]; try simp only [fo] | apply hX; clear hX X | clear hX X; apply hX; clear hX X | intro hlen; unfold maxLen at hlen))
    first
     | refine callE (hfl _ (by first | assumption | (rw [ext_nb]; omega)) _) ?_
       rw [hfs]
       simp -implicitDefEqProofs only [↓slp, slb, ↓reduceIte, reduceCtorEq, jA, jB, jC, jD, jE, jF, jG, jH, jI, jJ, jK, tfTeL, f0, f1, f5, f6, f7, hAm, List.map_cons, List.map_nil, Ty.pv]; try simp only [fo]
       (repeat (first | refine aSeq fun X hX => ?_ | refine aRet ?_ | refine aReg ?_; simp -implicitDefEqProofs only [forall_eq, ↓slp, slb, ↓reduceIte, reduceCtorEq, jA, jB, jC, jD, jE, jF, jG, jH, jI, jJ, jK, tfTeL, f0, f1, f5, f6, f7, hAm, cs, List.map_cons, List.map_nil, Ty.pv]; try simp only [fo] | apply hX; clear hX X))
       simp only [aPost, Tryz.results29, aRes_n, aRes_t, aRes_c, pack_one, pack_two]
       simp -implicitDefEqProofs only [↓slp, slb, ↓reduceIte, reduceCtorEq, jA, jB, jC, jD, jE, jF, jG, jH, jI, jJ, jK, tfTeL, f6, hAm]
       exact leave_lst hA htk rfl ⟨t1, _, rfl, rfl, rx_bad hq⟩
     | simp only [aPost, Tryz.results29, aRes_n, aRes_t, aRes_c, pack_one, pack_two]
       simp -implicitDefEqProofs only [↓slp, slb, ↓reduceIte, reduceCtorEq, jA, jB, jC, jD, jE, jF, jG, jH, jI, jJ, jK, tfTeL, f6, hAm]
       exact leave_lst hA htk rfl ⟨_, _, rfl, rfl, rx_ok hq⟩
  ·have cs := kd10 hk
   obtain ⟨t1, rfl⟩ : ∃ t1, Ts = [t1] := by
    match Ts, hll.trans (hk10 hk) with
    | [t1], _ => exact ⟨t1, rfl⟩
   have hq : Q = .ok t1 := by rw [hty, hk]; rfl
   (repeat (first | refine aSeq fun X hX => ?_ | refine aSkip ?_ | (first | refine aExit ?_ | refine aRet ?_); try simp only [slx, ↓reduceIte, jA, reduceCtorEq] | (first | apply aReg | apply aIf); simp -implicitDefEqProofs only [forall_eq, ↓slp, slb, ↓reduceIte, reduceCtorEq, jA, jB, jC, jD, jE, jF, jG, jH, jI, jJ, jK, tfTeL, f0, f1, f5, f6, f7, f8, pI, c0, hAm, cs, List.map_cons, List.map_nil, Ty.pv]; try simp only [fo] | apply hX; clear hX X | clear hX X; apply hX; clear hX X | intro hlen; unfold maxLen at hlen))
   simp only [aPost, Tryz.results29, aRes_n, aRes_t, aRes_c, pack_one, pack_two]
   simp -implicitDefEqProofs only [↓slp, slb, ↓reduceIte, reduceCtorEq, jA, jB, jC, jD, jE, jF, jG, jH, jI, jJ, jK, tfTeL, f6, hAm]
   exact leave_lst hA htk rfl ⟨_, _, rfl, rfl, rx_ok hq⟩
  ·have cs := kd11 hk
   obtain ⟨t1, t2, rfl⟩ : ∃ t1 t2, Ts = [t1, t2] := by
    match Ts, hll.trans (hk9 (by omega)) with
    | [t1, t2], _ => exact ⟨t1, t2, rfl⟩
   have hq : Q = if t1.kind == t2.kind && t1.name.toList == t2.name.toList then .ok t1 else .bad e.line e.col := by rw [hty, hk]; rfl
   cases b2 : (t1.kind == t2.kind) <;> cases b3 : (t1.name.toList == t2.name.toList)
   all_goals
    rw [b2, b3] at hq
    (repeat (first | refine aSeq fun X hX => ?_ | refine aSkip ?_ | (first | refine aExit ?_ | refine aRet ?_); try simp only [slx, ↓reduceIte, jA, reduceCtorEq] | (first | apply aReg | refine aDrE ?_ | apply aIf); simp -implicitDefEqProofs only [forall_eq, ↓slp, slb, ↓reduceIte, reduceCtorEq, jA, jB, jC, jD, jE, jF, jG, jH, jI, jJ, jK, tfTeL, f0, f1, f5, f6, f7, f8, pI, c0, hAm, cs, List.map_cons, List.map_nil, Ty.pv, b2, b3]; try simp only [fo] | apply hX; clear hX X | clear hX X; apply hX; clear hX X | intro hlen; unfold maxLen at hlen))
    first
     | refine callE (hfl _ (by first | assumption | (rw [ext_nb]; omega)) _) ?_
       rw [hfs]
       simp -implicitDefEqProofs only [↓slp, slb, ↓reduceIte, reduceCtorEq, jA, jB, jC, jD, jE, jF, jG, jH, jI, jJ, jK, tfTeL, f0, f1, f5, f6, f7, hAm, List.map_cons, List.map_nil, Ty.pv]; try simp only [fo]
       (repeat (first | refine aSeq fun X hX => ?_ | refine aRet ?_ | refine aReg ?_; simp -implicitDefEqProofs only [forall_eq, ↓slp, slb, ↓reduceIte, reduceCtorEq, jA, jB, jC, jD, jE, jF, jG, jH, jI, jJ, jK, tfTeL, f0, f1, f5, f6, f7, hAm, cs, List.map_cons, List.map_nil, Ty.pv]; try simp only [fo] | apply hX; clear hX X))
       simp only [aPost, Tryz.results29, aRes_n, aRes_t, aRes_c, pack_one, pack_two]
       simp -implicitDefEqProofs only [↓slp, slb, ↓reduceIte, reduceCtorEq, jA, jB, jC, jD, jE, jF, jG, jH, jI, jJ, jK, tfTeL, f6, hAm]
       exact leave_lst hA htk rfl ⟨t1, _, rfl, rfl, rx_bad hq⟩
     | simp only [aPost, Tryz.results29, aRes_n, aRes_t, aRes_c, pack_one, pack_two]
       simp -implicitDefEqProofs only [↓slp, slb, ↓reduceIte, reduceCtorEq, jA, jB, jC, jD, jE, jF, jG, jH, jI, jJ, jK, tfTeL, f6, hAm]
       exact leave_lst hA htk rfl ⟨_, _, rfl, rfl, rx_ok hq⟩
  ·have cs := kd12 hk
   obtain ⟨t1, rfl⟩ : ∃ t1, Ts = [t1] := by
    match Ts, hll.trans (hk12 hk).1 with
    | [t1], _ => exact ⟨t1, rfl⟩
   obtain ⟨x, hka⟩ : ∃ x, e.kids = [x] := by
    match hks2 : e.kids, (hk12 hk).1 with
    | [x], _ => exact ⟨x, rfl⟩
   obtain ⟨c, r, hn⟩ : ∃ c r, e.names = c :: r := by
    match hn2 : e.names, (hk12 hk).2 with
    | c :: r, _ => exact ⟨c, r, rfl⟩
   cases cn : decide (findVar V e.name < 0) with
   | true =>
    have hq : Q = .bad e.line e.col := by rw [hty, hk]; unfold finF; rw [cn]; rfl
    (repeat (first | refine aSeq fun X hX => ?_ | refine aSkip ?_ | refine aExit ?_; try simp only [slx, ↓reduceIte, jA, reduceCtorEq] | (first | apply aReg | apply aIf); simp -implicitDefEqProofs only [forall_eq, ↓slp, slb, ↓reduceIte, reduceCtorEq, jA, jB, jC, jD, jE, jF, jG, jH, jI, jJ, jK, tfTeL, f0, f1, f5, f6, f7, f8, pI, c0, hAm, cs]; try simp only [fo] | apply hX; clear hX X | clear hX X; apply hX; clear hX X | intro hlen; unfold maxLen at hlen))
    refine callE (hfv _) ?_
    simp -implicitDefEqProofs only [↓slp, slb, ↓reduceIte, reduceCtorEq, jA, jB, jC, jD, jE, jF, jG, jH, jI, jJ, jK, tfTeL, f0, f1, f5, f6, f7, hAm, pI, cn]; try simp only [fo]
    (repeat (first | refine aSeq fun X hX => ?_ | (first | apply aReg | apply aIf); simp -implicitDefEqProofs only [forall_eq, ↓slp, slb, ↓reduceIte, reduceCtorEq, jA, jB, jC, jD, jE, jF, jG, jH, jI, jJ, jK, tfTeL, f0, f1, f5, f6, f7, hAm, cs, cn]; try simp only [fo] | apply hX; clear hX X))
    refine callE (hfl _ (by first | assumption | (rw [ext_nb]; omega)) _) ?_
    rw [hfs]
    simp -implicitDefEqProofs only [↓slp, slb, ↓reduceIte, reduceCtorEq, jA, jB, jC, jD, jE, jF, jG, jH, jI, jJ, jK, tfTeL, f0, f1, f5, f6, f7, hAm]; try simp only [fo]
    (repeat (first | refine aSeq fun X hX => ?_ | refine aRet ?_; try simp only [slx, ↓reduceIte, jA, reduceCtorEq] | refine aReg ?_; simp -implicitDefEqProofs only [forall_eq, ↓slp, slb, ↓reduceIte, reduceCtorEq, jA, jB, jC, jD, jE, jF, jG, jH, jI, jJ, jK, tfTeL, f0, f1, f5, f6, f7, hAm, cs]; try simp only [fo] | apply hX; clear hX X))
    simp only [aPost, Tryz.results29, aRes_n, aRes_t, aRes_c, pack_one, pack_two]
    simp -implicitDefEqProofs only [↓slp, slb, ↓reduceIte, reduceCtorEq, jA, jB, jC, jD, jE, jF, jG, jH, jI, jJ, jK, tfTeL, f6, hAm]
    exact leave_lst hA htk rfl ⟨_, _, rfl, rfl, rx_bad (t := tyZ) hq⟩
   | false =>
    have hov := hof (by simpa using cn)
    have hct := fun m => rctors_any p.1 (tyOf V e.name) m
    have hcn := fun m => rIndex_any .no (ctorsF p.1 (tyOf V e.name)) c m
    have hid := idx_has (ctorsF p.1 (tyOf V e.name)) c
    have hsl := fun m => rst_any x m
    have hq : Q = if hasS (ctorsF p.1 (tyOf V e.name)) c && stF x then .ok t1 else .bad e.line e.col := by
     rw [hty, hk, hka, hn]; unfold finF; rw [cn]
     show (if hasS (ctorsF p.1 (tyOf V e.name)) c && (stF x && true) then TR.ok t1 else .bad e.line e.col) = _
     rw [Bool.and_true]
    generalize ctorsF p.1 (tyOf V e.name) = all at *
    cases b1 : hasS all c <;> cases b2 : stF x
    all_goals
     rw [b1, b2] at hq
     rw [b1] at hid
     (repeat (first | refine aSeq fun X hX => ?_ | refine aSkip ?_ | refine aExit ?_; try simp only [slx, ↓reduceIte, jA, reduceCtorEq] | (first | apply aReg | apply aIf); simp -implicitDefEqProofs only [forall_eq, ↓slp, slb, ↓reduceIte, reduceCtorEq, jA, jB, jC, jD, jE, jF, jG, jH, jI, jJ, jK, tfTeL, f0, f1, f5, f6, f7, f8, pI, c0, hAm, cs]; try simp only [fo] | apply hX; clear hX X | clear hX X; apply hX; clear hX X | intro hlen; unfold maxLen at hlen))
     refine callE (hfv _) ?_
     simp -implicitDefEqProofs only [↓slp, slb, ↓reduceIte, reduceCtorEq, jA, jB, jC, jD, jE, jF, jG, jH, jI, jJ, jK, tfTeL, f0, f1, f5, f6, f7, hAm, pI, cn]; try simp only [fo]
     (repeat (first | refine aSeq fun X hX => ?_ | refine aSkip ?_ | (first | apply aReg | refine aDrE ?_ | apply aIf); simp -implicitDefEqProofs only [forall_eq, ↓slp, slb, ↓reduceIte, reduceCtorEq, jA, jB, jC, jD, jE, jF, jG, jH, jI, jJ, jK, tfTeL, f0, f1, f5, f6, f7, f8, pI, c0, hAm, cs, cn, hn, hka] | apply hX; clear hX X))
     refine callE (hov _) ?_
     simp -implicitDefEqProofs only [↓slp, slb, ↓reduceIte, reduceCtorEq, jA, jB, jC, jD, jE, jF, jG, jH, jI, jJ, jK, tfTeL, f0, f1, f5, f6, f7, hAm, hn, hka, List.map_cons]
     refine callE (hct _) ?_
     simp -implicitDefEqProofs only [↓slp, slb, ↓reduceIte, reduceCtorEq, jA, jB, jC, jD, jE, jF, jG, jH, jI, jJ, jK, tfTeL, f0, f1, f5, f6, f7, hAm, hn, hka, List.map_cons]
     refine callE (hcn _) ?_
     simp -implicitDefEqProofs only [↓slp, slb, ↓reduceIte, reduceCtorEq, jA, jB, jC, jD, jE, jF, jG, jH, jI, jJ, jK, tfTeL, f0, f1, f5, f6, f7, hAm, pI, hid, hn, hka, List.map_cons, Bool.not_true, Bool.not_false]; try simp only [fo]
     try refine callE (hsl _) ?_
     try (simp -implicitDefEqProofs only [↓slp, slb, ↓reduceIte, reduceCtorEq, jA, jB, jC, jD, jE, jF, jG, jH, jI, jJ, jK, tfTeL, f0, f1, f5, f6, f7, hAm, pB, b2]; try simp only [fo])
     (repeat (first | refine aSeq fun X hX => ?_ | refine aSkip ?_ | refine aRet ?_ | (first | apply aReg | apply aIf); simp -implicitDefEqProofs only [forall_eq, ↓slp, slb, ↓reduceIte, reduceCtorEq, jA, jB, jC, jD, jE, jF, jG, jH, jI, jJ, jK, tfTeL, f0, f1, f5, f6, f7, hAm, cs, List.map_cons]; try simp only [fo] | apply hX; clear hX X))
     first
      | refine callE (hfl _ (by first | assumption | (rw [ext_nb]; omega)) _) ?_
        rw [hfs]
        simp -implicitDefEqProofs only [↓slp, slb, ↓reduceIte, reduceCtorEq, jA, jB, jC, jD, jE, jF, jG, jH, jI, jJ, jK, tfTeL, f0, f1, f5, f6, f7, hAm, List.map_cons, List.map_nil, Ty.pv]; try simp only [fo]
        (repeat (first | refine aSeq fun X hX => ?_ | refine aRet ?_ | refine aReg ?_; simp -implicitDefEqProofs only [forall_eq, ↓slp, slb, ↓reduceIte, reduceCtorEq, jA, jB, jC, jD, jE, jF, jG, jH, jI, jJ, jK, tfTeL, f0, f1, f5, f6, f7, hAm, cs, List.map_cons, List.map_nil, Ty.pv]; try simp only [fo] | apply hX; clear hX X))
        simp only [aPost, Tryz.results29, aRes_n, aRes_t, aRes_c, pack_one, pack_two]
        simp -implicitDefEqProofs only [↓slp, slb, ↓reduceIte, reduceCtorEq, jA, jB, jC, jD, jE, jF, jG, jH, jI, jJ, jK, tfTeL, f6, hAm]
        exact leave_lst hA htk rfl ⟨t1, _, rfl, rfl, rx_bad hq⟩
      | simp only [aPost, Tryz.results29, aRes_n, aRes_t, aRes_c, pack_one, pack_two]
        simp -implicitDefEqProofs only [↓slp, slb, ↓reduceIte, reduceCtorEq, jA, jB, jC, jD, jE, jF, jG, jH, jI, jJ, jK, tfTeL, f6, hAm]
        exact leave_lst hA htk rfl ⟨_, _, rfl, rfl, rx_ok hq⟩
  ·have cs := kd13 hk
   have h0 : 0 < Ts.length := by have := hk13 hk; omega
   have hl : e.names.length = Ts.length := by have := hk13 hk; omega
   cases cn : decide (findVar V e.name < 0) with
   | true =>
    have hq : Q = .bad e.line e.col := by rw [hty, hk]; unfold finF; rw [cn]; rfl
    (repeat (first | refine aSeq fun X hX => ?_ | refine aSkip ?_ | refine aExit ?_; try simp only [slx, ↓reduceIte, jA, reduceCtorEq] | (first | apply aReg | apply aIf); simp -implicitDefEqProofs only [forall_eq, ↓slp, slb, ↓reduceIte, reduceCtorEq, jA, jB, jC, jD, jE, jF, jG, jH, jI, jJ, jK, tfTeL, f0, f1, f5, f6, f7, f8, pI, c0, hAm, cs]; try simp only [fo] | apply hX; clear hX X | clear hX X; apply hX; clear hX X | intro hlen; unfold maxLen at hlen))
    refine callE (hfv _) ?_
    simp -implicitDefEqProofs only [↓slp, slb, ↓reduceIte, reduceCtorEq, jA, jB, jC, jD, jE, jF, jG, jH, jI, jJ, jK, tfTeL, f0, f1, f5, f6, f7, hAm, pI, cn]; try simp only [fo]
    (repeat (first | refine aSeq fun X hX => ?_ | (first | apply aReg | apply aIf); simp -implicitDefEqProofs only [forall_eq, ↓slp, slb, ↓reduceIte, reduceCtorEq, jA, jB, jC, jD, jE, jF, jG, jH, jI, jJ, jK, tfTeL, f0, f1, f5, f6, f7, hAm, cs, cn]; try simp only [fo] | apply hX; clear hX X))
    refine callE (hfl _ (by first | assumption | (rw [ext_nb]; omega)) _) ?_
    rw [hfs]
    simp -implicitDefEqProofs only [↓slp, slb, ↓reduceIte, reduceCtorEq, jA, jB, jC, jD, jE, jF, jG, jH, jI, jJ, jK, tfTeL, f0, f1, f5, f6, f7, hAm]; try simp only [fo]
    (repeat (first | refine aSeq fun X hX => ?_ | refine aRet ?_; try simp only [slx, ↓reduceIte, jA, reduceCtorEq] | refine aReg ?_; simp -implicitDefEqProofs only [forall_eq, ↓slp, slb, ↓reduceIte, reduceCtorEq, jA, jB, jC, jD, jE, jF, jG, jH, jI, jJ, jK, tfTeL, f0, f1, f5, f6, f7, hAm, cs]; try simp only [fo] | apply hX; clear hX X))
    simp only [aPost, Tryz.results29, aRes_n, aRes_t, aRes_c, pack_one, pack_two]
    simp -implicitDefEqProofs only [↓slp, slb, ↓reduceIte, reduceCtorEq, jA, jB, jC, jD, jE, jF, jG, jH, jI, jJ, jK, tfTeL, f6, hAm]
    exact leave_lst hA htk rfl ⟨_, _, rfl, rfl, rx_bad (t := tyZ) hq⟩
   | false =>
    have hov := hof (by simpa using cn)
    have hct := fun m => rctors_any p.1 (tyOf V e.name) m
    have hq : Q = if mgOk (ctorsF p.1 (tyOf V e.name)) (Ts.getD 0 tyZ) [] e.names Ts && e.names.length == (ctorsF p.1 (tyOf V e.name)).length then .ok (Ts.getD 0 tyZ) else .bad e.line e.col := by
     rw [hty, hk]; unfold finF; rw [cn]; rfl
    generalize ctorsF p.1 (tyOf V e.name) = all at *
    obtain ⟨R2, hR2⟩ : ∃ R2, mgOk all (Ts.getD 0 tyZ) [] e.names Ts = R2 := ⟨_, rfl⟩
    rw [hR2] at hq
    (repeat (first | refine aSeq fun X hX => ?_ | refine aSkip ?_ | refine aExit ?_; try simp only [slx, ↓reduceIte, jA, reduceCtorEq] | (first | apply aReg | apply aIf); simp -implicitDefEqProofs only [forall_eq, ↓slp, slb, ↓reduceIte, reduceCtorEq, jA, jB, jC, jD, jE, jF, jG, jH, jI, jJ, jK, tfTeL, f0, f1, f5, f6, f7, f8, pI, c0, hAm, cs]; try simp only [fo] | apply hX; clear hX X | clear hX X; apply hX; clear hX X | intro hlen; unfold maxLen at hlen))
    refine callE (hfv _) ?_
    simp -implicitDefEqProofs only [↓slp, slb, ↓reduceIte, reduceCtorEq, jA, jB, jC, jD, jE, jF, jG, jH, jI, jJ, jK, tfTeL, f0, f1, f5, f6, f7, hAm, pI, cn]; try simp only [fo]
    (repeat (first | refine aSeq fun X hX => ?_ | refine aSkip ?_ | (first | apply aReg | refine aDrE ?_ | apply aIf); simp -implicitDefEqProofs only [forall_eq, ↓slp, slb, ↓reduceIte, reduceCtorEq, jA, jB, jC, jD, jE, jF, jG, jH, jI, jJ, jK, tfTeL, f0, f1, f5, f6, f7, f8, pI, c0, hAm, cs, cn]; try simp only [fo] | apply hX; clear hX X))
    refine callE (hov _) ?_
    simp -implicitDefEqProofs only [↓slp, slb, ↓reduceIte, reduceCtorEq, jA, jB, jC, jD, jE, jF, jG, jH, jI, jJ, jK, tfTeL, f0, f1, f5, f6, f7, hAm]
    refine callE (hct _) ?_
    simp -implicitDefEqProofs only [↓slp, slb, ↓reduceIte, reduceCtorEq, jA, jB, jC, jD, jE, jF, jG, jH, jI, jJ, jK, tfTeL, f0, f1, f5, f6, f7, hAm]; try simp only [fo]
    (repeat (first | refine aSeq fun X hX => ?_ | refine aBlk ?_ | refine aReg ?_; simp -implicitDefEqProofs only [forall_eq, ↓slp, slb, ↓reduceIte, reduceCtorEq, jA, jB, jC, jD, jE, jF, jG, jH, jI, jJ, jK, tfTeL, f0, f1, f5, f6, f7, hAm, cs]; try simp only [fo] | apply hX; clear hX X))
    obtain ⟨J, hJ⟩ : ∃ J : F → M → Prop, ∀ f m', J f m' = (∃ (j : Nat) (bad : Bool), j ≤ e.names.length ∧ (!bad && mgOk all (Ts.getD 0 tyZ) (e.names.take j) (e.names.drop j) (Ts.drop j)) = R2 ∧ f 0 = .bp a 0 ∧ f 5 = .ep e.cs ∧ f 6 = .bp mm.nb 0 ∧ f 7 = .sl o (Ts.map Ty.pv) ∧ f 16 = .sl .no (all.map pS) ∧ f 17 = pI j ∧ m' = lst p a (mm.ext [some [.v (.int .u8 0), .v (.string ⟨#[]⟩)]]) (if bad then (true, e.line, e.col) else (false, l0, c1))) := ⟨_, fun _ _ => rfl⟩
    refine aLoop J (fun f m => e.names.length - numOf (f 17)) ?_ ?_
    ·rw [hJ]; exact ⟨0, false, by omega, by rw [List.drop_zero, List.drop_zero, List.take_zero, hR2]; rfl, f0, f5, f6, f7, rfl, rfl, rfl⟩
    clear f0 f1 f5 f6 f7 f8 hR2
    intro f m' hrel
    rw [hJ] at hrel
    obtain ⟨j, bad, hj, hR2, f0, f5, f6, f7, f16, f17, rfl⟩ := hrel
    cases c2 : decide ((j : Int) < (e.names.length : Int)) with
    | false =>
     have hjj : j = e.names.length := by simp at c2; omega
     subst hjj
     rw [List.drop_length, mgOk, Bool.and_true] at hR2
     subst hR2
     have g1 := getD_map Ty.pv Ts 0 h0
     have hg := getD_cons0 Ts h0 tyZ
     rw [hg] at hq
     generalize Ts[0] = y at *
     cases c3 : ((e.names.length : Int) == (all.length : Int)) with
     | true =>
      have c4 : (e.names.length == all.length) = true := by simp at c3 ⊢; omega
      rw [c4] at hq
      (repeat (first | refine aSeq fun X hX => ?_ | refine aSkip ?_ | (first | refine aExit ?_ | refine aRet ?_); try simp only [slx, ↓reduceIte, jA, reduceCtorEq] | (first | apply aReg | apply aIf); simp -implicitDefEqProofs only [forall_eq, ↓slp, slb, ↓reduceIte, reduceCtorEq, jA, jB, jC, jD, jE, jF, jG, jH, jI, jJ, jK, tfTeL, f0, f5, f6, f7, f16, f17, pI, c2, c3, g1, h0, hAm] | apply hX; clear hX X | clear hX X; apply hX; clear hX X | intro hlen; unfold maxLen at hlen))
      simp only [aPost, Tryz.results29, aRes_n, aRes_t, aRes_c, pack_one, pack_two]
      simp -implicitDefEqProofs only [↓slp, slb, ↓reduceIte, reduceCtorEq, jA, jB, jC, jD, jE, jF, jG, jH, jI, jJ, jK, tfTeL, f6, hAm]
      cases bad with
      | true => exact leave_lst hA htk rfl ⟨y, _, rfl, rfl, rx_bad hq⟩
      | false => exact leave_lst hA htk rfl ⟨_, _, rfl, rfl, rx_ok hq⟩
     | false =>
      have c4 : (e.names.length == all.length) = false := by simp at c3 ⊢; omega
      rw [c4, Bool.and_false] at hq
      (repeat (first | refine aSeq fun X hX => ?_ | refine aExit ?_; try simp only [slx, ↓reduceIte, jA, reduceCtorEq] | (first | apply aReg | apply aIf); simp -implicitDefEqProofs only [forall_eq, ↓slp, slb, ↓reduceIte, reduceCtorEq, jA, jB, jC, jD, jE, jF, jG, jH, jI, jJ, jK, tfTeL, f0, f5, f6, f7, f16, f17, pI, c2, c3, g1, h0, hAm] | apply hX; clear hX X | clear hX X; apply hX; clear hX X | intro hlen; unfold maxLen at hlen))
      refine callE (hfl _ (by first | assumption | (rw [ext_nb]; omega)) _) ?_
      rw [show failS (if bad = true then (true, e.line, e.col) else (false, l0, c1)) e.line e.col = (true, e.line, e.col) by cases bad <;> rfl]
      simp -implicitDefEqProofs only [↓slp, slb, ↓reduceIte, reduceCtorEq, jA, jB, jC, jD, jE, jF, jG, jH, jI, jJ, jK, tfTeL, f0, f5, f6, f7, g1, h0, hAm]
      (repeat (first | refine aSeq fun X hX => ?_ | refine aRet ?_ | refine aReg ?_; simp -implicitDefEqProofs only [forall_eq, ↓slp, slb, ↓reduceIte, reduceCtorEq, jA, jB, jC, jD, jE, jF, jG, jH, jI, jJ, jK, tfTeL, f0, f5, f6, f7, g1, h0, hAm] | apply hX; clear hX X))
      simp only [aPost, Tryz.results29, aRes_n, aRes_t, aRes_c, pack_one, pack_two]
      simp -implicitDefEqProofs only [↓slp, slb, ↓reduceIte, reduceCtorEq, jA, jB, jC, jD, jE, jF, jG, jH, jI, jJ, jK, tfTeL, f6, hAm]
      exact leave_lst hA htk rfl ⟨y, _, rfl, rfl, rx_bad hq⟩
    | true =>
     have hlt : j < e.names.length := by simpa using c2
     have hlt2 : j < Ts.length := by omega
     have gn := getD_map pS e.names j hlt
     have g0 := getD_map Ty.pv Ts j hlt2
     have g1 := getD_map Ty.pv Ts 0 h0
     have hin : IntKind.i64.wrap ((j : Int) + 1) = ((j + 1 : Nat) : Int) := by rw [wrap64 (by omega)]; omega
     have hme : numOf (f 17) = j := by rw [f17]; exact Int.toNat_natCast j
     rw [mgOk_drop hlt hlt2] at hR2
     have hg := getD_cons0 Ts h0 tyZ
     have hcn := fun m => rIndex_any .no all e.names[j] m
     have hid := idx_hasG all e.names[j]
     unfold Ty.eq eqS at hR2
     rw [hg] at hR2
     generalize hcj : e.names[j] = c at *
     generalize Ts[j] = x at *
     generalize Ts[0] = y at *
     (repeat (first | refine aSeq fun X hX => ?_ | refine aSkip ?_ | (first | apply aReg | apply aIf); simp -implicitDefEqProofs only [forall_eq, ↓slp, slb, ↓reduceIte, reduceCtorEq, jA, jB, jC, jD, jE, jF, jG, jH, jI, jJ, jK, tfTeL, f0, f5, f6, f7, f16, f17, pI, c2, hAm] | apply hX; clear hX X | intro hlen; unfold maxLen at hlen))
     have join : ∀ (g : F) (ok : Bool), g 0 = .bp a 0 → g 5 = .ep e.cs → g 6 = .bp mm.nb 0 → g 7 = .sl o (Ts.map Ty.pv) → g 16 = .sl .no (all.map pS) → g 17 = pI j → g 18 = pB ok → ok = (hasS all c && (x.kind == y.kind && x.name.toList == y.name.toList)) → X g (lst p a (mm.ext [some [.v (.int .u8 0), .v (.string ⟨#[]⟩)]]) (if bad then (true, e.line, e.col) else (false, l0, c1))) := by
      clear f0 f5 f6 f7 f16 f17
      intro g ok f0 f5 f6 f7 f16 f17 f18 hok
      apply hX; clear hX X
      (repeat (first | refine aSeq fun X hX => ?_ | refine aBlk ?_ | refine aReg ?_; simp -implicitDefEqProofs only [forall_eq, ↓slp, slb, ↓reduceIte, reduceCtorEq, jA, jB, jC, jD, jE, jF, jG, jH, jI, jJ, jK, tfTeL, f0, f5, f6, f7, f16, f17, f18, pI, pB, hAm] | apply hX; clear hX X))
      obtain ⟨K, hK⟩ : ∃ K : F → M → Prop, ∀ f m', K f m' = (∃ q : Nat, q ≤ j ∧ f 0 = .bp a 0 ∧ f 5 = .ep e.cs ∧ f 6 = .bp mm.nb 0 ∧ f 7 = .sl o (Ts.map Ty.pv) ∧ f 16 = .sl .no (all.map pS) ∧ f 17 = pI j ∧ f 18 = pB (ok && !hasS (e.names.take q) c) ∧ f 19 = pI q ∧ m' = lst p a (mm.ext [some [.v (.int .u8 0), .v (.string ⟨#[]⟩)]]) (if bad then (true, e.line, e.col) else (false, l0, c1))) := ⟨_, fun _ _ => rfl⟩
      refine aLoop K (fun f m => j - numOf (f 19)) ?_ ?_
      ·rw [hK]; exact ⟨0, by omega, f0, f5, f6, f7, f16, f17, by rw [List.take_zero, hasS_nil, Bool.not_false, Bool.and_true]; exact f18, rfl, rfl⟩
      clear f0 f5 f6 f7 f16 f17 f18
      intro f m' hrel
      rw [hK] at hrel
      obtain ⟨q, hq2, f0, f5, f6, f7, f16, f17, f18, f19, rfl⟩ := hrel
      cases c3 : decide ((q : Int) < (j : Int)) with
      | false =>
       have hqj : q = j := by simp at c3; omega
       subst hqj
       have hok2 : (ok && !hasS (e.names.take q) c) = (hasS all c && !hasS (e.names.take q) c && (x.kind == y.kind && x.name.toList == y.name.toList)) := by
        rw [hok]; cases hasS all c <;> cases hasS (e.names.take q) c <;> simp
       cases b1 : (ok && !hasS (e.names.take q) c) with
       | true =>
        rw [← hok2, b1, Bool.true_and] at hR2
        (repeat (first | refine aSeq fun X hX => ?_ | refine aSkip ?_ | refine aExit ?_; try simp only [slx, ↓reduceIte, jA, reduceCtorEq] | (first | apply aReg | apply aIf); simp -implicitDefEqProofs only [forall_eq, ↓slp, slb, ↓reduceIte, reduceCtorEq, jA, jB, jC, jD, jE, jF, jG, jH, jI, jJ, jK, tfTeL, f0, f5, f6, f7, f16, f17, f18, f19, pI, pB, c3, b1, hin, hAm] | apply hX; clear hX X | clear hX X; apply hX; clear hX X))
        rw [hJ]
        exact ⟨⟨q + 1, bad, hlt, by rw [hg]; exact hR2, f0, f5, f6, f7, f16, rfl, rfl⟩, by first | omega | (show e.names.length - numOf (pI ((q + 1 : Nat) : Int)) < _; have : numOf (pI ((q + 1 : Nat) : Int)) = q + 1 := Int.toNat_natCast _; omega)⟩
       | false =>
        rw [← hok2, b1, Bool.false_and, Bool.and_false] at hR2
        (repeat (first | refine aSeq fun X hX => ?_ | refine aExit ?_; try simp only [slx, ↓reduceIte, jA, reduceCtorEq] | (first | apply aReg | apply aIf); simp -implicitDefEqProofs only [forall_eq, ↓slp, slb, ↓reduceIte, reduceCtorEq, jA, jB, jC, jD, jE, jF, jG, jH, jI, jJ, jK, tfTeL, f0, f5, f6, f7, f16, f17, f18, f19, pI, pB, c3, b1, hAm] | apply hX; clear hX X | clear hX X; apply hX; clear hX X))
        refine callE (hfl _ (by first | assumption | (rw [ext_nb]; omega)) _) ?_
        rw [show failS (if bad = true then (true, e.line, e.col) else (false, l0, c1)) e.line e.col = (true, e.line, e.col) by cases bad <;> rfl]
        simp -implicitDefEqProofs only [↓slp, slb, ↓reduceIte, reduceCtorEq, jA, jB, jC, jD, jE, jF, jG, jH, jI, jJ, jK, tfTeL, f0, f5, f6, f7, f16, f17, pI, hin, hAm]
        (repeat (first | refine aReg ?_; simp -implicitDefEqProofs only [forall_eq, ↓slp, slb, ↓reduceIte, reduceCtorEq, jA, jB, jC, jD, jE, jF, jG, jH, jI, jJ, jK, tfTeL, f0, f5, f6, f7, f16, f17, pI, hin, hAm] | apply hX; clear hX X))
        rw [hJ]
        exact ⟨⟨q + 1, true, hlt, by rw [← hR2]; rfl, f0, f5, f6, f7, f16, rfl, rfl⟩, by first | omega | (show e.names.length - numOf (pI ((q + 1 : Nat) : Int)) < _; have : numOf (pI ((q + 1 : Nat) : Int)) = q + 1 := Int.toNat_natCast _; omega)⟩
      | true =>
       have hltq : q < j := by simpa using c3
       have hltn : q < e.names.length := by omega
       have gq := getD_map pS e.names q hltn
       have hiq : IntKind.i64.wrap ((q : Int) + 1) = ((q + 1 : Nat) : Int) := by rw [wrap64 (by omega)]; omega
       have hmq : numOf (f 19) = q := by rw [f19]; exact Int.toNat_natCast q
       have htk : hasS (e.names.take (q + 1)) c = (hasS (e.names.take q) c || e.names[q].toList == c.toList) := by
        rw [List.take_succ_eq_append_getElem hltn, hasS_snoc]; rfl
       generalize e.names[q] = z at *
       cases b1 : (ok && !hasS (e.names.take q) c) <;> cases b2 : (z.toList == c.toList)
       all_goals
        (repeat (first | refine aSeq fun X hX => ?_ | refine aBlk ?_ | refine aSkip ?_ | (first | apply aReg | refine aDrE ?_ | apply aIf); simp -implicitDefEqProofs only [forall_eq, ↓slp, slb, ↓reduceIte, reduceCtorEq, jA, jB, jC, jD, jE, jF, jG, jH, jI, jJ, jK, tfTeL, f0, f5, f6, f7, f16, f17, f18, f19, pI, pB, pS, c3, b1, b2, gq, gn, hltn, hlt, hiq, hAm] | apply hX; clear hX X))
        rw [hK]
        exact ⟨⟨q + 1, hltq, f0, f5, f6, f7, f16, f17, by rw [htk, b2]; revert b1; cases ok <;> cases hasS (e.names.take q) c <;> intro b1 <;> (first | rfl | cases b1), rfl, rfl⟩, by first | omega | (show j - numOf (pI ((q + 1 : Nat) : Int)) < _; have : numOf (pI ((q + 1 : Nat) : Int)) = q + 1 := Int.toNat_natCast _; omega)⟩
     clear hX
     cases b1 : hasS all c <;> cases b3 : (x.kind == y.kind) <;> cases b4 : (x.name.toList == y.name.toList)
     all_goals
      rw [b1] at hid
      (repeat (refine aDrE ?_; simp -implicitDefEqProofs only [forall_eq, ↓slp, slb, ↓reduceIte, reduceCtorEq, jA, jB, jC, jD, jE, jF, jG, jH, jI, jJ, jK, tfTeL, f0, f5, f6, f7, f16, f17, pI, pS, c2, gn, hlt, hAm]))
      refine callE (hcn _) ?_
      simp -implicitDefEqProofs only [↓slp, slb, ↓reduceIte, reduceCtorEq, jA, jB, jC, jD, jE, jF, jG, jH, jI, jJ, jK, tfTeL, f0, f5, f6, f7, f16, f17, pI, pS, hid, g0, g1, b3, b4, hlt, hlt2, h0, hAm]
      try (repeat (first | refine aSeq fun X hX => ?_ | apply aBlk | refine aSkip ?_ | (first | refine aExit ?_ | refine aRet ?_); try simp only [slx, ↓reduceIte, jA, reduceCtorEq] | (first | apply aReg | refine aDrE ?_ | apply aIf); simp -implicitDefEqProofs only [forall_eq, ↓slp, slb, ↓reduceIte, reduceCtorEq, jA, jB, jC, jD, jE, jF, jG, jH, jI, jJ, jK, tfTeL, f0, f5, f6, f7, f16, f17, pI, pS, hid, g0, g1, b3, b4, hlt, hlt2, h0, hAm]; try simp only [fo] | apply hX; clear hX X | clear hX X; apply hX; clear hX X | clear hX X; clear hX X; apply hX; clear hX X | intro hlen; unfold maxLen at hlen | apply And.intro; · first | assumption | and_intros <;> first | omega | assumption))
      exact join _ _ f0 f5 f6 f7 f16 f17 rfl (by rw [b1, b3, b4]; rfl)
theorem rex_any (p : List En × List No) (V : List Va) (e : Ex) : RX p V e := Ex.ind (motive := RX p V) (fun e IH => rex_step p V e IH) e

def tfTeX := tfTeA

theorem lst_mk {p : List En × List No} {m : M} {z y x : Option (List PV)} {a : Nat} {s : Bool × Int × Int} (h : m.nb + 2 = a) : lst p a (m.ext [z, y, x]) s = m.ext [z, y, some (lN p s)] := by
 subst h
 unfold lst
 rw [ext_upd (i := 2) rfl]
 rfl
def isBX (b : Nat) (C : List PV) (m2 : M) : Prop := ∃ x : Subtype (fun m2 : M => m2.get b = some C), m2 = x.1
theorem isBX_all {b : Nat} {C : List PV} {Q : M → Prop} : (∀ m2, isBX b C m2 → Q m2) = ∀ x : Subtype (fun m2 : M => m2.get b = some C), Q x.1 :=
 propext ⟨fun h x => h _ ⟨x, rfl⟩, fun h m2 ⟨x, e⟩ => e ▸ h x⟩
theorem isBX_of {b : Nat} {C : List PV} {m : M} (h : m.get b = some C) : isBX b C m := ⟨⟨m, h⟩, rfl⟩
def badT : TR → Bool
 | .ok _ => false
 | .bad _ _ => true
def posT : TR → Int × Int
 | .ok _ => (0, 0)
 | .bad l c => (l, c)
set_option maxHeartbeats 8000000 in
theorem rExpr_any (ns : List No) (E : List En) (V : List Va) (e : Ex) (har : e.ar E) (m : M) :
    ACalls Tryz.prog 10 [.ag [.sl .no (E.map En.pv), .sl .no (ns.map No.pv)], .sl .no (V.map Va.pv), e.pv] m (fun v m' => v = .tp [(tyT (tyF E V e)).pv, pB (badT (tyF E V e)), pP (posT (tyF E V e)).1 (posT (tyF E V e)).2] ∧ m' = m) := by
 have hx := fun (z y : Option (List PV)) => rex_any (E, ns) V e har (m.nb + 2) (m.ext [z, y, some []]) (by rw [ext_nb]; simp) (false, 0, 0)
 simp only [lst_mk (rfl : m.nb + 2 = m.nb + 2), lN] at hx
 obtain ⟨Q, hQ⟩ : ∃ Q, tyF E V e = Q := ⟨_, rfl⟩
 rw [hQ] at hx ⊢
 refine eN [6, 8, 13] Tryz.func10 ?_
 (repeat revert X); refine wE tfTeX ?_; repeat intro X hX
 refine callM (hx _ _) ?_
 rintro v m' ⟨t, s', rfl, rfl, hP⟩
 rcases hP with ⟨h1, _⟩ | ⟨_, ⟨rfl, rfl⟩ | ⟨l, c, rfl, rfl⟩⟩
 ·cases h1
 ·refine wS tfTeX ?_
  (repeat revert X); refine wD tfTeX ?_; repeat intro X hX
  refine wR Tryz.results10 ?_
  try (simp -implicitDefEqProofs only [slb, ↓reduceIte, jA, jB, jE, tfTeX])
  exact leave_ext rfl ⟨rfl, rfl⟩
 ·refine wS tfTeX ?_
  (repeat revert X); refine wE tfTeX ?_; repeat intro X hX
  have hS : ∀ x : Subtype (fun m2 : M => m2.get (m.nb + 2) = some [PV.sl Own.no (List.map En.pv E), PV.sl Own.no (List.map No.pv ns), PV.v (.bool true), PV.v (.int .i64 l), PV.v (.int .i64 c)]), x.1.get (m.nb + 2) = some [PV.sl Own.no (List.map En.pv E), PV.sl Own.no (List.map No.pv ns), PV.v (.bool true), PV.v (.int .i64 l), PV.v (.int .i64 c)] := fun x => x.2
  refine aDrw (isBX (m.nb + 2) [PV.sl Own.no (List.map En.pv E), PV.sl Own.no (List.map No.pv ns), PV.v (.bool true), PV.v (.int .i64 l), PV.v (.int .i64 c)]) (by kernel_rfl) (isBX_of (ext_get (i := 2) rfl)) ?_
  simp -implicitDefEqProofs only [↓slp, slb, ↓reduceIte, reduceCtorEq, jA, jB, jE, jF, tfTeX, isBX_all, hS]; try simp only [fo]
  refine ⟨isBX_of (ext_get (i := 2) rfl), isBX_of (ext_get (i := 2) rfl), ?_⟩
  (repeat revert X); refine wE aEQ_t ?_; repeat intro X hX
  refine wQ Tryz.results10 tfTeX ?_
  exact leave_ext rfl ⟨rfl, rfl⟩
end Go.Proofs.YthhhnfjcaicjnaaGreatDoor
