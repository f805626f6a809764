/-
 The law TypesExprs.
-/
-- halved
import Derived.Test.YthhhnfjcaicjnaaGreatDoorAbMac
import Derived.Test.YthhhnfjcaicjnaaGreatDoorTgA
import Derived.Test.YthhhnfjcaicjnaaGreatDoorTcA
import Derived.Test.YthhhnfjcaicjnaaGreatDoorTxA
import Derived.Test.YthhhnfjcaicjnaaGreatDoorAlA
set_option linter.unusedVariables false
set_option linter.unusedSimpArgs false
namespace Go.Proofs.YthhhnfjcaicjnaaGreatDoor
open Nat renaming reduceEqDiff → jA, reduceAdd → jB, reduceMul → jC, reduceLT → jD, reduceLeDiff → jE, reduceBEq → jF, reduceBNe → jG
open Int renaming reduceLE → jH, reduceLT → jI, reduceToNat → jJ, reduceEq → jK
open Go
set_option maxRecDepth 20000
set_option linter.defProp false
def tfTeP := And.intro @tfA (And.intro @Ex.settle_pv (And.intro @Ex.pure_pv (And.intro @Ex.cells_pv (And.intro @Ex.cs.eq_1 (And.intro @On.pv.eq_1 (And.intro @Ty.pv.eq_1 (And.intro @Va.settle_pv (And.intro @Va.pure_pv (And.intro @Va.cells_pv (And.intro @Va.cs.eq_1 (And.intro @No.settle_pv (And.intro @No.pure_pv (And.intro @No.cells_pv (And.intro @No.cs.eq_1 (And.intro @Qu.settle_pv (And.intro @Qu.pure_pv (And.intro @Qu.cells_pv (And.intro @Qu.cs.eq_1 (And.intro @En.settle_pv (And.intro @En.pure_pv (And.intro @En.cells_pv @En.cs.eq_1)))))))))))))))))))))

def e1X : Ex := .mk 7 3 0 ⟨#[]⟩ [] [.mk 1 0 1 ⟨#[]⟩ [] [] 0 0, .mk 2 0 1 ⟨#[]⟩ [] [] 0 0] 1 1
theorem e1X_pv : e1X.pv = .ag [.v (.int .u8 7), .v (.int .u8 3), .v (.int .i32 0), .v (.string ⟨#[]⟩), .sl .no [], .sl .no [.ag [.v (.int .u8 1), .v (.int .u8 0), .v (.int .i32 1), .v (.string ⟨#[]⟩), .sl .no [], .sl .no [], .v (.int .i64 0), .v (.int .i64 0)], .ag [.v (.int .u8 2), .v (.int .u8 0), .v (.int .i32 1), .v (.string ⟨#[]⟩), .sl .no [], .sl .no [], .v (.int .i64 0), .v (.int .i64 0)]], .v (.int .i64 1), .v (.int .i64 1)] := by
 unfold e1X
 have h1 : (Ex.mk 1 0 1 ⟨#[]⟩ [] [] 0 0).pv = .ag [.v (.int .u8 1), .v (.int .u8 0), .v (.int .i32 1), .v (.string ⟨#[]⟩), .sl .no [], .sl .no [], .v (.int .i64 0), .v (.int .i64 0)] := by rw [Ex.pv_eq]; rfl
 have h2 : (Ex.mk 2 0 1 ⟨#[]⟩ [] [] 0 0).pv = .ag [.v (.int .u8 2), .v (.int .u8 0), .v (.int .i32 1), .v (.string ⟨#[]⟩), .sl .no [], .sl .no [], .v (.int .i64 0), .v (.int .i64 0)] := by rw [Ex.pv_eq]; rfl
 rw [← h1, ← h2, Ex.pv_eq]
 rfl
theorem e1X_ar : e1X.ar [] := by
 unfold e1X
 exact ar_parts ⟨ar_leaf (.inl rfl), ar_leaf (.inr (.inl rfl)), trivial⟩ (by simp)
theorem e1X_ty : tyF [] [] e1X = .bad 1 1 := by kernel_rfl
set_option maxHeartbeats 2000000 in
theorem awake_any (m : M) : ACalls Tryz.prog 4 [] m (fun v m' => v = pB true ∧ m' = m) := by
 have hx := fun m => tExpr_any [] [] [] e1X e1X_ar m
 rw [e1X_ty, e1X_pv] at hx
 simp only [List.map_nil, tyT, errT] at hx
 refine eN [2] Tryz.func4 ?_
 (repeat revert X); refine wE tfTeP ?_; repeat intro X hX
 refine callMS (hx _) rfl ?_
 rintro v m' ⟨rfl, hmm⟩
 subst hmm
 refine wS tfTeP ?_
 (repeat revert X); refine wE tfTeP ?_; repeat intro X hX
 refine callE (kind_at7 1 1 _) ?_
 refine wS aEQ_t ?_
 (repeat revert X); refine wE tfTeP ?_; repeat intro X hX
 refine callE (where_at 1 1 _ 7) ?_
 refine wS tfTeP ?_
 (repeat revert X); refine wE aEQ_t ?_; repeat intro X hX
 refine wR Tryz.results4 ?_
 exact leave_ext rfl ⟨rfl, rfl⟩
def enCol : En := ⟨sCol, [sRed, sGreen, sBlue], 0, 0⟩
theorem colE_col : ColE [enCol] := colAll_col sRed (by simp)
theorem ctors_len {E' : List En} (h : sameL smE [enCol] E' = true) : E'.length = 1 ∧ (E'.flatMap En.ctors).length = 3 := by
 have h1 := sameL_len h
 have h2 := smE_ctors h
 refine ⟨h1.symm, ?_⟩
 rw [List.flatMap_def, ← h2]
 rfl
theorem leave_B {m mb : M} {v : PV} {R : PV → M → Prop} (hb : BaseR m mb) (hv : v.settle.pure = true) (hR : R v.settle m) : ∃ v' m', Leave m mb v v' m' ∧ R v' m' := by
 have e : mb = (⟨m.boxes, mb.toks⟩ : M).ext (mb.boxes.drop m.nb) := by
  have : m.boxes ++ mb.boxes.drop m.nb = mb.boxes := by rw [← hb.boxes]; simp
  cases mb
  simp only [M.ext] at this ⊢
  rw [this]
 rw [e]
 exact leave_toks (m0 := m) (m := ⟨m.boxes, mb.toks⟩) ⟨hb.nt, hb.toks, rfl⟩ hv hR
set_option maxHeartbeats 16000000 in
theorem exprs_any (l : List Int) (hel : ∀ x ∈ l, 0 ≤ x ∧ x ≤ 255) (at' how : Int) (hat : 0 ≤ at' ∧ at' ≤ 65535) (hhow : 0 ≤ how ∧ how ≤ 255) (m : M) :
    ACalls Tryz.prog 3 [.sl .no (l.map pU), .v (.int .u16 at'), .v (.int .u8 how)] m (fun v m' => v = .v (.bool true)) := by
 refine eN [12, 14, 16] Tryz.func3 ?_
 cases c1 : decide ((l.length : Int) > 400) with
 | true =>
  (repeat revert X); refine wW aEQ_t ?_; repeat intro X hX
  refine callE (awake_any _) ?_
  refine wS (And.intro tfTeP c1) ?_
  (repeat (apply hX; clear hX X))
  refine aIf ?_; simp -implicitDefEqProofs only [slb, ↓reduceIte, reduceCtorEq]
  (repeat revert X); refine wW aEQ_t ?_; repeat intro X hX
  refine callE (awake_any _) ?_
  refine wS aEQ_t ?_
  (repeat revert X); refine wW aEQ_t ?_; repeat intro X hX
  refine wR Tryz.results3 ?_
  exact leave_same rfl rfl
 | false =>
 (repeat revert X); refine wW aEQ_t ?_; repeat intro X hX
 refine callE (awake_any _) ?_
 refine wS (And.intro tfTeP c1) ?_
 (repeat revert X); refine wE aEQ_t ?_; repeat intro X hX
 refine callM (make_any l (by simp at c1; omega) hel _) ?_
 rintro v m' ⟨ns, rfl, hnl, hns, hmm⟩; subst hmm
 have hw1 := made_w hns
 have hg1 := made_g colAll_col hns
 refine wS aEQ_t ?_
 (repeat revert X); refine wE tfTeP ?_; repeat intro X hX
 refine callM (spoil_any (d := 3) (W := 40000000) [enCol] colE_col ns (by omega) (fun n hn => (hw1 n hn).1) (fun n hn => ⟨ga_gb (hg1 n hn).1 (hw1 n hn).1.b, (hw1 n hn).2.2⟩) (fun n hn => by have := hg1 n hn; omega) at' how hat hhow _) ?_
 rintro v m' ⟨⟨ss, rfl, hsl, hss⟩, hmm⟩; subst hmm
 have hws : ∀ n ∈ ss, n.nw 3 := fun n hn => by
  obtain ⟨h1, h2, ⟨h3, h4⟩, ⟨h5, h6⟩⟩ := hss n hn
  exact ⟨⟨by omega, h4⟩, ⟨by omega, h6⟩, gb_nw h1 (by omega), Nat.le_trans h2 (by decide)⟩
 refine wS aEQ_t ?_
 (repeat revert X); refine wE tfTeP ?_; repeat intro X hX
 refine callM (placedP_any (d := 3) [enCol] (by decide) ss (by omega) hws _) ?_
 rintro v m' ⟨⟨E', l', rfl, hpl⟩, hmm⟩; subst hmm
 have hpE : sameL smE [enCol] E' = true := by simp only [Bool.and_eq_true] at hpl; exact hpl.1
 have hpN : sameL (smN 3) ss l' = true := by simp only [Bool.and_eq_true] at hpl; exact hpl.2
 have hlen : l'.length = ss.length := (sameL_len hpN).symm
 obtain ⟨hel1, hel2⟩ := ctors_len hpE
 have hgl := smN_gb (W := 200000000) hpE hpN (fun n hn => by
  obtain ⟨h1, h2, ⟨h3, h4⟩, ⟨h5, h6⟩⟩ := hss n hn
  exact ⟨gb_ga h1, by omega, by omega, by omega⟩)
 have hnd : ∀ n ∈ l', NdW 3 n := fun n hn => by
  obtain ⟨h1, h2, h3, h4⟩ := hgl n hn
  exact ⟨by rw [List.length_append]; omega, by omega, gb_rs 3 _ _ h1⟩
 have hck := ncheck_any l' E' 3 (by omega) (by omega) hnd (by
  have := sum_leW (fun n : No => wtF 3 n.b.vars n.b.eqs) 200000000 l' (fun n hn => (hgl n hn).2.1)
  have h3 : l'.length * 200000000 ≤ 3 * 200000000 := Nat.mul_le_mul_right _ (by omega)
  omega) (by omega)
 clear hws hss hpl hw1 hg1 hns
 refine wS tfTeP ?_
 (repeat revert X); refine wE tfTeP ?_; repeat intro X hX
 refine callM (hck _) ?_
 rintro v m2 ⟨hv, hmm⟩; subst hmm
 have hvn : (∃ k lc c, v = pA lc c k) ∨ v = .v .nilIface := by rcases hv with h | h; exact .inr h; exact .inl h
 clear hv hck
 rcases hvn with ⟨k, lc, c, rfl⟩ | rfl
 ·refine wS tfTeP ?_
  (repeat revert X); refine wE aEQ_t ?_; repeat intro X hX
  refine wR Tryz.results3 ?_
  exact leave_same rfl rfl
 refine wS tfTeP ?_
 (repeat revert X); refine wE aEQ_t ?_; repeat intro X hX
 obtain ⟨I, hI⟩ : ∃ I : F → M → Prop, ∀ f m3, I f m3 = (∃ i : Nat, i ≤ l'.length ∧ f 7 = .ep [.sl .no (E'.map En.pv), .sl .no (l'.map No.pv)] ∧ f 8 = pI i ∧ BaseR m2 m3) := ⟨_, fun _ _ => rfl⟩
 refine aLoop I (fun f m => l'.length - numOf (f 8)) ?_ ?_
 ·rw [hI]; exact ⟨0, Nat.zero_le _, rfl, rfl, .refl _⟩
 intro f m3 hrel
 rw [hI] at hrel
 obtain ⟨i, hi, f7, f8, hB⟩ := hrel
 cases c3 : decide ((i : Int) < (l'.length : Int)) with
 | false =>
  (repeat revert X); refine wE (And.intro tfTeP (And.intro f7 (And.intro f8 (And.intro c3 @pI.eq_1)))) ?_; repeat intro X hX
  refine wR Tryz.results3 ?_
  exact leave_B hB rfl rfl
 | true =>
 have hlt : i < l'.length := by simpa using c3
 have hg := getD_map No.pv l' i hlt
 have hii : IntKind.i64.wrap ((i : Int) + 1) = ((i + 1 : Nat) : Int) := by rw [wrap64 (by omega)]; omega
 have hme : numOf (f 8) = i := by rw [f8]; exact Int.toNat_natCast i
 obtain ⟨hga, hwx, hix, hox⟩ := hgl _ (List.getElem_mem hlt)
 have hvl := wt_eqs (wtF 2) l'[i].b.vars l'[i].b.eqs
 have hwe : wtF 3 l'[i].b.vars l'[i].b.eqs = wtB (wtF 2) l'[i].b.vars l'[i].b.eqs := rfl
 have hvl2 : l'[i].b.vars.length + l'[i].b.eqs.length ≤ 200000000 := by omega
 generalize l'[i] = x at *
 (repeat (first | refine aSeq fun X hX => ?_ | refine aSkip ?_ | (first | apply aReg | apply aIf); simp -implicitDefEqProofs only [↓slp, slb, ↓reduceIte, reduceCtorEq, jA, jB, jE, jF, tfTeP, f7, f8, c3, pI, hg] | apply hX; clear hX X | intro hlen; unfold maxLen at hlen | apply And.intro; focus omega))
 refine ⟨⟨va_len x.ins, by unfold maxLen; omega, by omega⟩, ?_⟩
 have hB1 : BaseR m2 (m3.fresh 15) := hB.fresh (o := .full) (s' := 15) .full
 have ho1 : Mine m2 (m3.fresh 15) (.tok m3.nt) 15 := Mine.newB hB .full 15
 generalize m3.fresh 15 = m4 at *
 generalize Own.tok m3.nt = o1 at *
 have hf1 := ho1.free
 (repeat (first | refine aSeq fun X hX => ?_ | refine aReg ?_; simp -implicitDefEqProofs only [↓slp, slb, ↓reduceIte, reduceCtorEq, jA, jB, jE, jF, tfTeP, f8, pI] | apply hX; clear hX X))
 refine ⟨⟨hf1, va_len x.ins, va_len x.outs, by unfold maxLen; omega, by omega⟩, ?_⟩
 have hB2 : BaseR m2 ((o1.use m4).fresh 15) := hB1.fresh ho1
 have ho2 : Mine m2 ((o1.use m4).fresh 15) (.tok m4.nt) 15 := Mine.newB hB1 o1 15
 generalize (o1.use m4).fresh 15 = m5 at *
 generalize Own.tok m4.nt = o2 at *
 have hf2 := ho2.free
 (repeat (first | refine aSeq fun X hX => ?_ | refine aReg ?_; simp -implicitDefEqProofs only [↓slp, slb, ↓reduceIte, reduceCtorEq, jA, jB, jE, jF, tfTeP, f8, pI] | apply hX; clear hX X))
 refine ⟨⟨hf2, by rw [← List.map_append]; exact va_len _, va_len x.b.vars, by rw [List.length_append, List.length_map, List.length_map]; unfold maxLen; omega, by rw [List.length_append, List.length_map, List.length_map]; omega⟩, ?_⟩
 have hB3 : BaseR m2 ((o2.use m5).fresh 15) := hB2.fresh ho2
 have ho3 : Mine m2 ((o2.use m5).fresh 15) (.tok m5.nt) 15 := Mine.newB hB2 o2 15
 generalize (o2.use m5).fresh 15 = m6 at *
 generalize Own.tok m5.nt = o3 at *
 obtain ⟨V, hV⟩ : ∃ V, x.ins ++ x.outs ++ x.b.vars = V := ⟨_, rfl⟩
 rw [← List.map_append, ← List.map_append, hV]
 clear hf1 hf2 hB1 hB2 ho1 ho2 hV
 (repeat revert X); refine wE (And.intro f8 @pI.eq_1) ?_; repeat intro X hX

 obtain ⟨J, hJ⟩ : ∃ J : F → M → Prop, ∀ f m7, J f m7 = (∃ k : Nat, k ≤ x.b.eqs.length ∧ f 7 = .ep [.sl .no (E'.map En.pv), .sl .no (l'.map No.pv)] ∧ f 8 = pI i ∧ f 9 = .ep [PV.v (Value.string x.name), PV.sl Own.no (List.map Va.pv x.ins), PV.sl Own.no (List.map Va.pv x.outs), PV.sl Own.no (List.map Va.pv x.b.vars), PV.sl Own.no (List.map Qu.pv x.b.eqs), PV.v (Value.int IntKind.i64 x.line), PV.v (Value.int IntKind.i64 x.col)] ∧ f 10 = .sl o3 (V.map Va.pv) ∧ f 11 = pI k ∧ BaseR m2 m7) := ⟨_, fun _ _ => rfl⟩
 refine aLoop J (fun f m => x.b.eqs.length - numOf (f 11)) ?_ ?_
 ·rw [hJ]; exact ⟨0, Nat.zero_le _, f7, f8, rfl, rfl, rfl, hB3⟩
 clear f7 f8 hB3 ho3
 intro f m7 hrel
 rw [hJ] at hrel
 obtain ⟨k, hk, f7, f8, f9, f10, f11, hB3⟩ := hrel
 cases c4 : decide ((k : Int) < (x.b.eqs.length : Int)) with
 | false =>
  (repeat (first | refine aSeq fun X hX => ?_ | refine aExit ?_; try simp only [slx, ↓reduceIte, jA, reduceCtorEq] | (first | apply aReg | apply aIf); simp -implicitDefEqProofs only [↓slp, slb, ↓reduceIte, reduceCtorEq, jA, jB, jE, jF, tfTeP, f8, f9, f11, c4, pI, hii] | apply hX; clear hX X | clear hX X; apply hX; clear hX X | intro hlen; unfold maxLen at hlen))
  rw [hI]
  exact ⟨⟨i + 1, hlt, f7, rfl, hB3⟩, by omega⟩
 | true =>
 have hkl : k < x.b.eqs.length := by simpa using c4
 have hgk := getD_map Qu.pv x.b.eqs k hkl
 have hki : IntKind.i64.wrap ((k : Int) + 1) = ((k + 1 : Nat) : Int) := by rw [wrap64 (by omega)]; omega
 have hkm : numOf (f 11) = k := by rw [f11]; exact Int.toNat_natCast k
 have hqa := fun h => gb_ar hga (List.getElem_mem hkl) h
 generalize x.b.eqs[k] = q at *
 cases c5 : (q.kind == 1) with
 | false =>
  (repeat (first | refine aSeq fun X hX => ?_ | refine aSkip ?_ | refine aExit ?_; try simp only [slx, ↓reduceIte, jA, reduceCtorEq] | (first | apply aReg | apply aIf); simp -implicitDefEqProofs only [↓slp, slb, ↓reduceIte, reduceCtorEq, jA, jB, jE, jF, tfTeP, f9, f11, c4, c5, pI, hgk, hki] | apply hX; clear hX X | clear hX X; apply hX; clear hX X | intro hlen; unfold maxLen at hlen | apply And.intro; focus omega))

  rw [hJ]
  exact ⟨⟨k + 1, hkl, f7, f8, f9, f10, rfl, hB3⟩, by omega⟩
 | true =>
 have hk1 : q.kind = 1 := by simpa using c5
 have hex := fun m => tExpr_any l' E' V q.e (hqa hk1) m
 have hrx := fun m => rExpr_any l' E' V q.e (hqa hk1) m
 (repeat (first | refine aSeq fun X hX => ?_ | refine aSkip ?_ | (first | apply aReg | apply aIf); simp -implicitDefEqProofs only [↓slp, slb, ↓reduceIte, reduceCtorEq, jA, jB, jE, jF, tfTeP, f9, f11, c4, c5, pI, hgk] | apply hX; clear hX X | intro hlen; unfold maxLen at hlen | apply And.intro; focus omega))

 obtain ⟨Q, hQ⟩ : ∃ Q, tyF E' V q.e = Q := ⟨_, rfl⟩
 rw [hQ] at hex hrx
 have join : ∀ f' : F, f' 7 = .ep [.sl .no (E'.map En.pv), .sl .no (l'.map No.pv)] → f' 8 = pI i → f' 9 = f 9 → f' 10 = f 10 → f' 11 = pI k → f' 12 = .bp m7.nb 0 → f' 13 = errT Q → X f' (m7.ext [some [.v (.int .u8 (tyT Q).kind), .v (.string (tyT Q).name)]]) := by
  intro f' g7 g8 g9 g10 g11 g12 g13
  rw [f9] at g9
  rw [f10] at g10
  clear f7 f8 f9 f10 f11 hex
  refine hX _ _ ?_
  clear hX X
  (repeat refine aSeq fun X hX => ?_)
  have join2 : ∀ (f2 : F) (bs : List (Option (List PV))) (j2 j3 : Nat), f2 7 = .ep [.sl .no (E'.map En.pv), .sl .no (l'.map No.pv)] → f2 8 = pI i → f2 9 = f' 9 → f2 10 = f' 10 → f2 11 = pI k → f2 12 = .bp m7.nb 0 → f2 13 = errT Q → f2 14 = .bp (m7.nb + j2) 0 → f2 15 = pB (badT Q) → f2 16 = .bp (m7.nb + j3) 0 → bs[0]? = some (some [.v (.int .u8 (tyT Q).kind), .v (.string (tyT Q).name)]) → bs[j2]? = some (some [.v (.int .u8 (tyT Q).kind), .v (.string (tyT Q).name)]) → bs[j3]? = some (some [.v (.int .i64 (posT Q).1), .v (.int .i64 (posT Q).2)]) → X f2 (m7.ext bs) := by
   intro f2 bs j2 j3 k7 k8 k9 k10 k11 k12 k13 k14 k15 k16 b1 b2 b3
   rw [g9] at k9
   rw [g10] at k10
   clear g7 g8 g9 g10 g11 g12 g13 hrx
   have e1 : (m7.ext bs).get m7.nb = some [.v (.int .u8 (tyT Q).kind), .v (.string (tyT Q).name)] := by rw [ext_get0 rfl, b1]; rfl
   have e2 : (m7.ext bs).get (m7.nb + j2) = some [.v (.int .u8 (tyT Q).kind), .v (.string (tyT Q).name)] := by rw [ext_get rfl, b2]; rfl
   have e3 : (m7.ext bs).get (m7.nb + j3) = some [.v (.int .i64 (posT Q).1), .v (.int .i64 (posT Q).2)] := by rw [ext_get rfl, b3]; rfl
   have hB4 : BaseR m2 (m7.ext bs) := hB3.ext bs
   refine hX _ _ ?_
   clear hX X
   clear b1 b2 b3
   cases Q with
   | ok t =>
    simp only [errT, badT, posT, tyT] at *
    (repeat refine aSeq fun X hX => ?_)
    (repeat (first | refine aSkip ?_ | (first | apply aReg | refine aDrE ?_ | apply aIf); simp -implicitDefEqProofs only [forall_eq, ↓slp, slb, ↓reduceIte, jA, jB, jE, jF, tfTeP, k11, k12, k13, k14, k15, e1, e2, pI, pB, hki] | apply hX; clear hX X))
    rw [hJ]
    exact ⟨⟨k + 1, hkl, k7, k8, k9, k10, rfl, hB4⟩, by omega⟩
   | bad bl bc =>
    simp only [errT, badT, posT, tyT] at *
    (repeat refine aSeq fun X hX => ?_)
    (repeat (refine aDrE ?_; simp -implicitDefEqProofs only [forall_eq, ↓slp, slb, ↓reduceIte, jA, jB, jE, jF, tfTeP, k12, k13, k14, k15, e1, e2, pB]))
    refine callE (where_at bl bc _ 7) ?_
    refine wS (And.intro tfTeP (And.intro k16 e3)) ?_
    (repeat (first | refine aSkip ?_ | (first | apply aReg | apply aIf); simp -implicitDefEqProofs only [↓slp, slb, ↓reduceIte, jA, jF, k11, pI, hki] | apply hX; clear hX X))
    rw [hJ]
    exact ⟨⟨k + 1, hkl, k7, k8, k9, k10, rfl, hB4⟩, by omega⟩
  clear hX
  refine aDrwA 19 rfl (by kernel_rfl) ?_
  refine aAll_q 0 (t := [1, 2, 3, 4, 5, 6, 7, 8, 9, 10, 11, 12, 13, 14, 15, 16, 17, 18]) (by kernel_rfl) (by decide) rfl rfl ?_
  refine wG (And.intro tfTeP g7) ?_
  refine aAll_q 1 (t := [2, 3, 4, 5, 6, 7, 8, 9, 10, 11, 12, 13, 14, 15, 16, 17, 18]) (by kernel_rfl) (by decide) rfl rfl ?_
  refine wG g10 ?_
  refine aAll_q 2 (t := [3, 4, 5, 6, 7, 8, 9, 10, 11, 12, 13, 14, 15, 16, 17, 18]) (by kernel_rfl) (by decide) rfl rfl ?_
  refine wG (And.intro tfTeP g9) ?_
  refine aAll_q 3 (t := [4, 5, 6, 7, 8, 9, 10, 11, 12, 13, 14, 15, 16, 17, 18]) (by kernel_rfl) (by decide) rfl rfl ?_
  refine wG tfTeP ?_
  refine aAll_q 4 (t := [5, 6, 7, 8, 9, 10, 11, 12, 13, 14, 15, 16, 17, 18]) (by kernel_rfl) (by decide) rfl rfl ?_
  refine wG tfTeP ?_
  refine aAll_q 5 (t := [6, 7, 8, 9, 10, 11, 12, 13, 14, 15, 16, 17, 18]) (by kernel_rfl) (by decide) rfl rfl ?_
  refine wG (And.intro g11 @pI.eq_1) ?_
  refine aAll_q 6 (t := [7, 8, 9, 10, 11, 12, 13, 14, 15, 16, 17, 18]) (by kernel_rfl) (by decide) rfl rfl ?_
  refine wG (And.intro tfTeP hgk) ?_
  refine ⟨hkl, ?_⟩
  refine aAll_q 7 (t := [8, 9, 10, 11, 12, 13, 14, 15, 16, 17, 18]) (by kernel_rfl) (by decide) rfl rfl ?_
  refine wG tfTeP ?_
  refine aAll_q 8 (t := [9, 10, 11, 12, 13, 14, 15, 16, 17, 18]) (by kernel_rfl) (by decide) rfl rfl ?_
  refine wG tfTeP ?_
  refine aAll_n [(9, [10, 11, 12, 13, 14, 15, 16, 17, 18]), (14, [9, 10, 11, 12, 13, 15, 16, 17, 18]), (15, [9, 10, 11, 12, 13, 14, 16, 17, 18])] (by kernel_rfl) (by decide) ?_
  intro y hy
  simp only [List.mem_cons, List.not_mem_nil, or_false] at hy
  rcases hy with rfl | rfl | rfl
  ·refine ⟨_, rfl, rfl, ?_⟩
   refine wG aEQ_t ?_
   refine callMS (hrx _) (by simp only [List.map_cons, List.map_nil, PV.settle, PV.settles, Ex.settle_pv]) ?_
   rintro v m' ⟨rfl, rfl⟩
   try simp -implicitDefEqProofs only [tfTeP]
   refine aAll_q 10 (t := [11, 12, 13, 14, 15, 16, 17, 18]) (by kernel_rfl) (by decide) rfl rfl ?_
   refine wG aEQ_t ?_
   refine aAll_q 11 (t := [12, 13, 14, 15, 16, 17, 18]) (by kernel_rfl) (by decide) rfl rfl ?_
   refine wG aEQ_t ?_
   refine aAll_q 12 (t := [13, 14, 15, 16, 17, 18]) (by kernel_rfl) (by decide) rfl rfl ?_
   refine wG aEQ_t ?_
   refine aAll_q 13 (t := [14, 15, 16, 17, 18]) (by kernel_rfl) (by decide) rfl rfl ?_
   refine wG aEQ_t ?_
   refine aAll_n [(14, [15, 16, 17, 18]), (15, [14, 16, 17, 18])] (by kernel_rfl) (by decide) ?_
   intro y hy
   simp only [List.mem_cons, List.not_mem_nil, or_false] at hy
   rcases hy with rfl | rfl
   ·refine ⟨_, rfl, rfl, ?_⟩
    refine wG tfTeP ?_
    refine aAll_n [(15, [16, 17, 18])] (by kernel_rfl) (by decide) ?_
    intro y hy
    rw [List.mem_singleton] at hy
    subst hy
    refine ⟨_, rfl, rfl, ?_⟩
    refine wG tfTeP ?_
    refine aAll_n [(16, [17, 18])] (by kernel_rfl) (by decide) ?_
    intro y hy
    rw [List.mem_singleton] at hy
    subst hy
    refine ⟨_, rfl, rfl, ?_⟩
    refine wG tfTeP ?_
    refine aAll_q 17 (t := [18]) (by kernel_rfl) (by decide) rfl rfl ?_
    refine wG aEQ_t ?_
    refine aAll_n [(18, [])] (by kernel_rfl) (by decide) ?_
    intro y hy
    rw [List.mem_singleton] at hy
    subst hy
    refine ⟨_, rfl, rfl, ?_⟩
    refine wG tfTeP ?_
    unfold aAll
    try simp only [slx, ↓reduceIte]
    exact join2 _ _ 1 2 g7 g8 rfl rfl g11 g12 g13 rfl rfl rfl rfl rfl rfl
   ·refine ⟨_, rfl, rfl, ?_⟩
    refine wG tfTeP ?_
    refine aAll_n [(14, [16, 17, 18])] (by kernel_rfl) (by decide) ?_
    intro y hy
    rw [List.mem_singleton] at hy
    subst hy
    refine ⟨_, rfl, rfl, ?_⟩
    refine wG tfTeP ?_
    refine aAll_n [(16, [17, 18])] (by kernel_rfl) (by decide) ?_
    intro y hy
    rw [List.mem_singleton] at hy
    subst hy
    refine ⟨_, rfl, rfl, ?_⟩
    refine wG tfTeP ?_
    refine aAll_q 17 (t := [18]) (by kernel_rfl) (by decide) rfl rfl ?_
    refine wG aEQ_t ?_
    refine aAll_n [(18, [])] (by kernel_rfl) (by decide) ?_
    intro y hy
    rw [List.mem_singleton] at hy
    subst hy
    refine ⟨_, rfl, rfl, ?_⟩
    refine wG tfTeP ?_
    unfold aAll
    try simp only [slx, ↓reduceIte]
    exact join2 _ _ 2 1 g7 g8 rfl rfl g11 g12 g13 rfl rfl rfl rfl rfl rfl
  ·refine ⟨_, rfl, rfl, ?_⟩
   refine wG tfTeP ?_
   refine aAll_n [(9, [10, 11, 12, 13, 15, 16, 17, 18]), (15, [9, 10, 11, 12, 13, 16, 17, 18])] (by kernel_rfl) (by decide) ?_
   intro y hy
   simp only [List.mem_cons, List.not_mem_nil, or_false] at hy
   rcases hy with rfl | rfl
   ·refine ⟨_, rfl, rfl, ?_⟩
    refine wG aEQ_t ?_
    refine callMS (hrx _) (by simp only [List.map_cons, List.map_nil, PV.settle, PV.settles, Ex.settle_pv]) ?_
    rintro v m' ⟨rfl, rfl⟩
    try simp -implicitDefEqProofs only [tfTeP]
    refine aAll_q 10 (t := [11, 12, 13, 15, 16, 17, 18]) (by kernel_rfl) (by decide) rfl rfl ?_
    refine wG aEQ_t ?_
    refine aAll_q 11 (t := [12, 13, 15, 16, 17, 18]) (by kernel_rfl) (by decide) rfl rfl ?_
    refine wG aEQ_t ?_
    refine aAll_q 12 (t := [13, 15, 16, 17, 18]) (by kernel_rfl) (by decide) rfl rfl ?_
    refine wG aEQ_t ?_
    refine aAll_q 13 (t := [15, 16, 17, 18]) (by kernel_rfl) (by decide) rfl rfl ?_
    refine wG aEQ_t ?_
    refine aAll_n [(15, [16, 17, 18])] (by kernel_rfl) (by decide) ?_
    intro y hy
    rw [List.mem_singleton] at hy
    subst hy
    refine ⟨_, rfl, rfl, ?_⟩
    refine wG tfTeP ?_
    refine aAll_n [(16, [17, 18])] (by kernel_rfl) (by decide) ?_
    intro y hy
    rw [List.mem_singleton] at hy
    subst hy
    refine ⟨_, rfl, rfl, ?_⟩
    refine wG tfTeP ?_
    refine aAll_q 17 (t := [18]) (by kernel_rfl) (by decide) rfl rfl ?_
    refine wG aEQ_t ?_
    refine aAll_n [(18, [])] (by kernel_rfl) (by decide) ?_
    intro y hy
    rw [List.mem_singleton] at hy
    subst hy
    refine ⟨_, rfl, rfl, ?_⟩
    refine wG tfTeP ?_
    unfold aAll
    try simp only [slx, ↓reduceIte]
    exact join2 _ _ 1 2 g7 g8 rfl rfl g11 g12 g13 rfl rfl rfl rfl rfl rfl
   ·refine ⟨_, rfl, rfl, ?_⟩
    refine wG tfTeP ?_
    refine aAll_n [(9, [10, 11, 12, 13, 16, 17, 18])] (by kernel_rfl) (by decide) ?_
    intro y hy
    rw [List.mem_singleton] at hy
    subst hy
    refine ⟨_, rfl, rfl, ?_⟩
    refine wG aEQ_t ?_
    refine callMS (hrx _) (by simp only [List.map_cons, List.map_nil, PV.settle, PV.settles, Ex.settle_pv]) ?_
    rintro v m' ⟨rfl, rfl⟩
    try simp -implicitDefEqProofs only [tfTeP]
    refine aAll_q 10 (t := [11, 12, 13, 16, 17, 18]) (by kernel_rfl) (by decide) rfl rfl ?_
    refine wG aEQ_t ?_
    refine aAll_q 11 (t := [12, 13, 16, 17, 18]) (by kernel_rfl) (by decide) rfl rfl ?_
    refine wG aEQ_t ?_
    refine aAll_q 12 (t := [13, 16, 17, 18]) (by kernel_rfl) (by decide) rfl rfl ?_
    refine wG aEQ_t ?_
    refine aAll_q 13 (t := [16, 17, 18]) (by kernel_rfl) (by decide) rfl rfl ?_
    refine wG aEQ_t ?_
    refine aAll_n [(16, [17, 18])] (by kernel_rfl) (by decide) ?_
    intro y hy
    rw [List.mem_singleton] at hy
    subst hy
    refine ⟨_, rfl, rfl, ?_⟩
    refine wG tfTeP ?_
    refine aAll_q 17 (t := [18]) (by kernel_rfl) (by decide) rfl rfl ?_
    refine wG aEQ_t ?_
    refine aAll_n [(18, [])] (by kernel_rfl) (by decide) ?_
    intro y hy
    rw [List.mem_singleton] at hy
    subst hy
    refine ⟨_, rfl, rfl, ?_⟩
    refine wG tfTeP ?_
    unfold aAll
    try simp only [slx, ↓reduceIte]
    exact join2 _ _ 1 2 g7 g8 rfl rfl g11 g12 g13 rfl rfl rfl rfl rfl rfl
  ·refine ⟨_, rfl, rfl, ?_⟩
   refine wG tfTeP ?_
   refine aAll_n [(9, [10, 11, 12, 13, 14, 16, 17, 18]), (14, [9, 10, 11, 12, 13, 16, 17, 18])] (by kernel_rfl) (by decide) ?_
   intro y hy
   simp only [List.mem_cons, List.not_mem_nil, or_false] at hy
   rcases hy with rfl | rfl
   ·refine ⟨_, rfl, rfl, ?_⟩
    refine wG aEQ_t ?_
    refine callMS (hrx _) (by simp only [List.map_cons, List.map_nil, PV.settle, PV.settles, Ex.settle_pv]) ?_
    rintro v m' ⟨rfl, rfl⟩
    try simp -implicitDefEqProofs only [tfTeP]
    refine aAll_q 10 (t := [11, 12, 13, 14, 16, 17, 18]) (by kernel_rfl) (by decide) rfl rfl ?_
    refine wG aEQ_t ?_
    refine aAll_q 11 (t := [12, 13, 14, 16, 17, 18]) (by kernel_rfl) (by decide) rfl rfl ?_
    refine wG aEQ_t ?_
    refine aAll_q 12 (t := [13, 14, 16, 17, 18]) (by kernel_rfl) (by decide) rfl rfl ?_
    refine wG aEQ_t ?_
    refine aAll_q 13 (t := [14, 16, 17, 18]) (by kernel_rfl) (by decide) rfl rfl ?_
    refine wG aEQ_t ?_
    refine aAll_n [(14, [16, 17, 18])] (by kernel_rfl) (by decide) ?_
    intro y hy
    rw [List.mem_singleton] at hy
    subst hy
    refine ⟨_, rfl, rfl, ?_⟩
    refine wG tfTeP ?_
    refine aAll_n [(16, [17, 18])] (by kernel_rfl) (by decide) ?_
    intro y hy
    rw [List.mem_singleton] at hy
    subst hy
    refine ⟨_, rfl, rfl, ?_⟩
    refine wG tfTeP ?_
    refine aAll_q 17 (t := [18]) (by kernel_rfl) (by decide) rfl rfl ?_
    refine wG aEQ_t ?_
    refine aAll_n [(18, [])] (by kernel_rfl) (by decide) ?_
    intro y hy
    rw [List.mem_singleton] at hy
    subst hy
    refine ⟨_, rfl, rfl, ?_⟩
    refine wG tfTeP ?_
    unfold aAll
    try simp only [slx, ↓reduceIte]
    exact join2 _ _ 2 1 g7 g8 rfl rfl g11 g12 g13 rfl rfl rfl rfl rfl rfl
   ·refine ⟨_, rfl, rfl, ?_⟩
    refine wG tfTeP ?_
    refine aAll_n [(9, [10, 11, 12, 13, 16, 17, 18])] (by kernel_rfl) (by decide) ?_
    intro y hy
    rw [List.mem_singleton] at hy
    subst hy
    refine ⟨_, rfl, rfl, ?_⟩
    refine wG aEQ_t ?_
    refine callMS (hrx _) (by simp only [List.map_cons, List.map_nil, PV.settle, PV.settles, Ex.settle_pv]) ?_
    rintro v m' ⟨rfl, rfl⟩
    try simp -implicitDefEqProofs only [tfTeP]
    refine aAll_q 10 (t := [11, 12, 13, 16, 17, 18]) (by kernel_rfl) (by decide) rfl rfl ?_
    refine wG aEQ_t ?_
    refine aAll_q 11 (t := [12, 13, 16, 17, 18]) (by kernel_rfl) (by decide) rfl rfl ?_
    refine wG aEQ_t ?_
    refine aAll_q 12 (t := [13, 16, 17, 18]) (by kernel_rfl) (by decide) rfl rfl ?_
    refine wG aEQ_t ?_
    refine aAll_q 13 (t := [16, 17, 18]) (by kernel_rfl) (by decide) rfl rfl ?_
    refine wG aEQ_t ?_
    refine aAll_n [(16, [17, 18])] (by kernel_rfl) (by decide) ?_
    intro y hy
    rw [List.mem_singleton] at hy
    subst hy
    refine ⟨_, rfl, rfl, ?_⟩
    refine wG tfTeP ?_
    refine aAll_q 17 (t := [18]) (by kernel_rfl) (by decide) rfl rfl ?_
    simp -implicitDefEqProofs only [↓slp, slb, ↓reduceIte, jA, jF, List.getElem_toArray, List.getElem_cons_succ, List.getElem_cons_zero]
    refine aAll_n [(18, [])] (by kernel_rfl) (by decide) ?_
    intro y hy
    rw [List.mem_singleton] at hy
    subst hy
    refine ⟨_, rfl, rfl, ?_⟩
    simp -implicitDefEqProofs only [↓slp, slb, ↓reduceIte, jA, jB, jE, tfTeP, List.getElem_toArray, List.getElem_cons_succ, List.getElem_cons_zero]
    unfold aAll
    try simp only [slx, ↓reduceIte]
    exact join2 _ _ 2 1 g7 g8 rfl rfl g11 g12 g13 rfl rfl rfl rfl rfl rfl
 clear hX
 have n0 : 14 - 1 - 13 = 0 := rfl
 refine aFltC 13 14 (fun _ => True) (by omega) (by simp only [List.length_cons, List.length_nil]; omega) (by kernel_rfl) trivial ?_
 simp -implicitDefEqProofs only [↓slp, slb, ↓reduceIte, reduceCtorEq, jA, jB, jE, jF, tfTeP, f7, f9, f10, f11, pI, hgk, Nat.reduceSub, Nat.reduceAdd, n0, List.getElem_cons_succ, List.getElem_cons_zero]; try simp only [fo]
 refine ⟨hkl, ?_, ?_⟩
 ·refine callMS (hex _) (by simp only [List.map_cons, List.map_nil, PV.settle, PV.settles, Ex.settle_pv]) ?_
  rintro v m' ⟨rfl, rfl⟩
  refine ⟨trivial, ?_⟩
  simp -implicitDefEqProofs only [↓slp, slb, ↓reduceIte, jA, jB, jE, jF, tfTeP, Nat.reduceAdd]; try simp only [fo]
  exact join _ f7 f8 rfl rfl f11 rfl rfl
 ·refine callMS (hex _) (by simp only [List.map_cons, List.map_nil, PV.settle, PV.settles, Ex.settle_pv]) ?_
  rintro v m' ⟨rfl, rfl⟩
  refine ⟨trivial, ?_⟩
  simp -implicitDefEqProofs only [↓slp, slb, ↓reduceIte, jA, jB, jE, jF, tfTeP, Nat.reduceAdd]; try simp only [fo]
  exact join _ f7 f8 rfl rfl f11 rfl rfl
end Go.Proofs.YthhhnfjcaicjnaaGreatDoor
