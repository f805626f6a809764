/-
 Texts that belong together: TpM, TpT.
-/
-- halved
import Derived.Test.YthhhnfjcaicjnaaGreatDoorJkA
import Derived.Test.YthhhnfjcaicjnaaGreatDoorTrS
set_option linter.unusedVariables false
namespace Go.Proofs.YthhhnfjcaicjnaaGreatDoor
open Go
structure Qu.nwg (q : Qu) : Prop where
 e : q.e.okg
 args : q.args.length ≤ 100000000 ∧ Ex.nars q.args ∧ ∀ e ∈ q.args, e.big ≤ 1000000
 arms : q.arms.length ≤ 100000000 ∧ ∀ x ∈ q.arms, (x.unl.length ≤ 100000000 ∧ ∀ t ∈ x.unl, t.e.okg) ∧ (x.til.length ≤ 100000000 ∧ ∀ t ∈ x.til, t.e.okg)
theorem Qu.nwg.weak {q : Qu} (h : q.nwg) : q.nw := ⟨h.e.weak, ⟨by have := h.args.1; omega, h.args.2.1, fun e he => Nat.le_trans e.size_big (h.args.2.2 e he)⟩, ⟨by have := h.arms.1; omega, fun x hx => by
 obtain ⟨⟨h1, h2⟩, ⟨h3, h4⟩⟩ := h.arms.2 x hx
 exact ⟨⟨by omega, fun t ht => (h2 t ht).weak⟩, ⟨by omega, fun t ht => (h4 t ht).weak⟩⟩⟩⟩
def NwG : Nat → List Va → List Qu → Prop
 | 0, V, Q => V.length ≤ 100000000 ∧ (∀ v ∈ V, v.first.okg) ∧ Q.length ≤ 100000000 ∧ ∀ q ∈ Q, q.nwg ∧ q.arms = []
 | d + 1, V, Q => V.length ≤ 100000000 ∧ (∀ v ∈ V, v.first.okg) ∧ Q.length ≤ 100000000 ∧ ∀ q ∈ Q, q.nwg ∧ ∀ x ∈ q.arms, NwG d x.vars x.eqs
theorem NwG.weak : ∀ {d : Nat} {V : List Va} {Q : List Qu}, NwG d V Q → NwB d V Q
 | 0, V, Q, ⟨h1, h2, h3, h4⟩ => ⟨by omega, fun v hv => (h2 v hv).weak, by omega, fun q hq => ⟨(h4 q hq).1.weak, (h4 q hq).2⟩⟩
 | d + 1, V, Q, ⟨h1, h2, h3, h4⟩ => ⟨by omega, fun v hv => (h2 v hv).weak, by omega, fun q hq => ⟨(h4 q hq).1.weak, fun x hx => NwG.weak ((h4 q hq).2 x hx)⟩⟩
structure No.nwg (d : Nat) (n : No) : Prop where
 ins : n.ins.length ≤ 100000000 ∧ ∀ v ∈ n.ins, v.first.okg
 outs : n.outs.length ≤ 100000000 ∧ ∀ v ∈ n.outs, v.first.okg
 b : NwG d n.b.vars n.b.eqs
 wt : wtF d n.b.vars n.b.eqs ≤ 2 ^ 32
theorem nars_of : ∀ {l : List Ex}, (∀ e ∈ l, e.nar) → Ex.nars l
 | [], _ => trivial
 | e :: r, h => ⟨h e (List.mem_cons_self ..), nars_of fun x hx => h x (List.mem_cons_of_mem _ hx)⟩

set_option linter.unusedSimpArgs false
open Nat renaming reduceEqDiff → jA, reduceAdd → jB, reduceMul → jC, reduceLT → jD, reduceLeDiff → jE, reduceBEq → jF, reduceBNe → jG
open Int renaming reduceLE → jH, reduceLT → jI, reduceToNat → jJ, reduceEq → jK
set_option maxRecDepth 20000
set_option linter.defProp false
def Y0 := And.intro @slb (And.intro @tfA (And.intro @Ex.settle_pv (And.intro @Ex.pure_pv (And.intro @Ex.cells_pv (And.intro @Ex.cs.eq_1 (And.intro @On.pv.eq_1 (And.intro @Ty.pv.eq_1 (And.intro @Va.settle_pv (And.intro @Va.pure_pv (And.intro @Va.cells_pv (And.intro @Va.cs.eq_1 (And.intro @Qu.settle_pv (And.intro @Qu.pure_pv (And.intro @Qu.cells_pv (And.intro @Qu.cs.eq_1 (And.intro @Am.settle_pv (And.intro @Am.pure_pv (And.intro @Am.cells_pv (And.intro @Am.cs.eq_1 (And.intro @Tr.settle_pv (And.intro @Tr.pure_pv (And.intro @Tr.cells_pv (And.intro @Tr.cs.eq_1 (And.intro @spt_nb (And.intro @spt_nt (And.intro @spt_fresh (And.intro @spt_use (And.intro @spt_free (And.intro @spt_alive (And.intro @spt_a (And.intro @spt_upda (And.intro @spt_ext (And.intro @spt_ext2 (And.intro @spt_ea (And.intro @spt_own (And.intro @spt_own0 (And.intro @spt_ou @spt_ou0)))))))))))))))))))))))))))))))))))))

theorem appB {α : Type} (r s : List α) (x y : α) : (r ++ x :: y :: s)[r.length + 1]? = some y := by
 rw [List.getElem?_append_right (by omega), Nat.add_sub_cancel_left]; rfl
theorem appBs {α : Type} (r s : List α) (x y z : α) : (r ++ x :: y :: s).set (r.length + 1) z = r ++ x :: z :: s := by
 rw [List.set_append_right _ _ (by omega), Nat.add_sub_cancel_left]; rfl
theorem wt_join {F a c d : Nat} (hF : 1 ≤ F) (h : d ≤ F * c) : a + d ≤ F * (a + c) := by
 have := Nat.le_mul_of_pos_left a hF
 rw [Nat.mul_add]; omega
structure SpQ (wb : WbT) (x y : Qu) : Prop where
 lhs : y.lhs.length ≤ x.lhs.length
 args : y.args.length ≤ x.args.length
 arms : (y.arms.map (wtA wb)).sum ≤ (x.arms.map (wtA wb)).sum
 kind : y.kind = x.kind
 e : y.e = x.e
 ne : x.arms ≠ [] → y.arms ≠ []
def QA (E : List En) (q : Qu) : Prop := (q.kind = 1 → q.e.ar E) ∧ (q.kind = 5 → q.arms ≠ [])
def GQ (E : List En) (DB : List Va → List Qu → Prop) (q : Qu) : Prop := QA E q ∧ q.nw ∧ ∀ x ∈ q.arms, DB x.vars x.eqs
def AmO (z : Am) : Prop := (z.unl.length ≤ 1000000000 ∧ ∀ t ∈ z.unl, t.e.okw) ∧ (z.til.length ≤ 1000000000 ∧ ∀ t ∈ z.til, t.e.okw)
theorem nars_drop : ∀ (l : List Ex), Ex.nars l → Ex.nars (l.drop 1)
 | [], h => h
 | _ :: _, h => h.2
theorem sum_drop1 {α : Type} (f : α → Nat) : ∀ (l : List α), ((l.drop 1).map f).sum ≤ (l.map f).sum
 | [] => Nat.le_refl _
 | a :: l => by simp
theorem dropT {α β : Type} (f : α → β) (l : List α) : List.drop 1 (List.take l.length (List.map f l)) = (l.drop 1).map f := by
 rw [List.take_of_length_le (by simp), List.map_drop]
theorem SpQ.refl (wb : WbT) (x : Qu) : SpQ wb x x := ⟨Nat.le_refl _, Nat.le_refl _, Nat.le_refl _, rfl, rfl, fun h => h⟩

set_option maxHeartbeats 16000000 in
theorem sblock_step {E : List En} (hE : ColE E) {wb : WbT} {DB : List Va → List Qu → Prop} {Fc : Nat} (hF : 1 ≤ Fc) (p : Int × Int) (hp : 0 ≤ p.2) (vs : List Va) (l : List Qu) (hvl : vs.length ≤ 100000000) (hvo : ∀ v ∈ vs, v.first.okg) (hl : l.length ≤ 100000000) (hx : ∀ q ∈ l, q.nwg) (hG : ∀ q ∈ l, QA E q)
    (hB : ∀ q ∈ l, ∀ x ∈ q.arms, DB x.vars x.eqs ∧ ∀ (a : Nat) (m : M), a < m.nb → ∀ n : Int, ACalls Tryz.prog 17 [.bp a 0, bkPV x.vars x.eqs] (spt p a m n) (fun v m' => ∃ V' Q' c, v = bkPV V' Q' ∧ (DB V' Q' ∧ wb V' Q' ≤ Fc * wb x.vars x.eqs) ∧ m' = spt p a m c))
    (a : Nat) (m : M) (hA : a < m.nb) (n : Int) :
    ACalls Tryz.prog 17 [.bp a 0, bkPV vs l] (spt p a m n) (fun v m' => ∃ V' Q' c, v = bkPV V' Q' ∧ (((∀ v ∈ V', v.first.okw) ∧ ∀ q ∈ Q', GQ E DB q) ∧ wtB wb V' Q' ≤ (Fc + 1) * wtB wb vs l) ∧ m' = spt p a m c) := by
 refine ACalls.enter (mu := [4, 5, 7, 8, 14]) ok_mix Tryz.func17 rfl (by kernel_rfl) (by kernel_rfl) (by simp only [List.length_cons, List.length_nil, Tryz.ntmps17]; omega) ?_
 (repeat (first | refine aSeq fun X hX => ?_ | refine aReg ?_; simp -implicitDefEqProofs only [↓slp, ↓reduceIte, reduceCtorEq, jA, jB, jE, jF, Y0, hA] | apply hX; clear hX X))
 refine callM (svars_any p hp vs hvl hvo a _ (by first | assumption | (rw [ext_nb]; omega)) n) ?_
 rintro v m' ⟨V, n1, rfl, hVl, hVo, rfl⟩
 simp -implicitDefEqProofs only [↓slp, ↓reduceIte, jA, jB, jE, jF, Y0, hA]
 (repeat (first | refine aSeq fun X hX => ?_ | refine aBlk ?_ | refine aReg ?_; simp -implicitDefEqProofs only [↓slp, slb, jF] | apply hX; clear hX X))
 obtain ⟨I, hI⟩ : ∃ I : F → M → Prop, ∀ f m', I f m' = (∃ (k : Nat) (o : Own) (mm : M) (r : List (Option (List PV))) (P : List Qu) (c : Int), k ≤ l.length ∧ P.length ≤ 2 * k ∧ ((∀ q ∈ P, GQ E DB q) ∧ (P.map (wtQ wb)).sum ≤ (Fc + 1) * ((l.take k).map (wtQ wb)).sum) ∧ f 0 = .bp a 0 ∧ f 3 = .ep [.sl .no (vs.map Va.pv), .sl .no (l.map Qu.pv)] ∧ f 4 = .bp m.nb 0 ∧ f 5 = .bp (m.nb + 1) 0 ∧ f 6 = pI k ∧
  m' = spt p a (mm.ext (some [.sl .full [], .sl .full []] :: some [.sl .no (V.map Va.pv), .sl o (P.map Qu.pv)] :: r)) c ∧ Toks m mm ∧ Mine m mm o 16) := ⟨_, fun _ _ => rfl⟩
 refine aLoop I (fun f m => l.length - numOf (f 6)) ?_ ?_
 ·rw [hI]; exact ⟨0, .full, m, [], [], _, by omega, Nat.le_refl _, ⟨(fun q hq => by cases hq), Nat.zero_le _⟩, rfl, rfl, rfl, rfl, rfl, rfl, .refl m, .full⟩
 intro f m' hrel
 rw [hI] at hrel
 obtain ⟨k, o, mm, r, P, c, hk, hPl, ⟨hPd, hPw⟩, f0, f3, f4, f5, f6, rfl, ht, ho⟩ := hrel
 have hnb := ht.nb
 have hAm : a < mm.nb := by omega
 cases c1 : decide ((k : Int) < (l.length : Int)) with
 | false =>
  have hk' : k = l.length := by simp at c1; omega
  subst hk'
  rw [List.take_length] at hPw
  (repeat (first | refine aSeq fun X hX => ?_ | (first | refine aExit ?_ | refine aRet ?_); try simp only [slx, ↓reduceIte, jA, reduceCtorEq] | (first | apply aReg | apply aIf); simp -implicitDefEqProofs only [↓slp, ↓reduceIte, reduceCtorEq, jA, jB, jE, jF, Y0, f3, f4, f5, f6, c1, hnb, hA, pI] | apply hX; clear hX X | clear hX X; apply hX; clear hX X | intro hlen; unfold maxLen at hlen))
  simp only [aPost, Tryz.results17, aRes_n, aRes_t, aRes_c, pack_one, pack_two]
  simp -implicitDefEqProofs only [↓reduceIte, jA, jB, jE, Y0, f4, hnb, hA]
  exact leave_spt hA ht rfl ⟨_, _, _, rfl, ⟨⟨hVo, hPd⟩, by unfold wtB; rw [Nat.mul_add]; have := Nat.le_mul_of_pos_left vs.length (show 0 < Fc + 1 by omega); omega⟩, rfl⟩
 | true =>
 have hlt : k < l.length := by simpa using c1
 have hg := getD_map Qu.pv l k hlt
 have hi : IntKind.i64.wrap ((k : Int) + 1) = ((k + 1 : Nat) : Int) := by rw [wrap64 (by omega)]; omega
 have hme : numOf (f 6) = k := by rw [f6]; exact Int.toNat_natCast k
 have htk : l.take (k + 1) = l.take k ++ [l[k]] := List.take_succ_eq_append_getElem hlt
 have hnw := hx _ (List.getElem_mem hlt)
 have hBx := hB _ (List.getElem_mem hlt)
 have hGx := hG _ (List.getElem_mem hlt)
 have hsk1 : ((l.take (k + 1)).map (wtQ wb)).sum = ((l.take k).map (wtQ wb)).sum + wtQ wb l[k] := by rw [htk, List.map_append, List.sum_append]; simp
 clear hx hB hG
 generalize l[k] = x at *
 have hwx := wtQ_pos wb x
 (repeat (first | refine aSeq fun X hX => ?_ | refine aSkip ?_ | (first | apply aReg | apply aIf); simp -implicitDefEqProofs only [↓slp, ↓reduceIte, reduceCtorEq, jA, jB, jE, jF, Y0, f0, f3, f6, c1, hg, hnb, hA, pI, List.getElem?_concat_length, set_concat_length] | apply hX; clear hX X | intro hlen; unfold maxLen at hlen | apply And.intro; focus omega))
 refine callM (snow_any p a _ (by first | assumption | (rw [ext_nb]; omega)) _) ?_
 rintro v m' ⟨rfl, rfl⟩
 generalize hnow : (nxt c == p.1) = b
 simp -implicitDefEqProofs only [slb, f6, pI]
 (repeat (apply hX; clear hX X))
 have join : ∀ (f' : F) (s : M) (y : Qu) (ol om o' : Own) (P' : List Qu) (mn : M) (r2 : List (Option (List PV))), y.nwg → (∀ z ∈ y.arms, DB z.vars z.eqs ∧ ∀ (a : Nat) (m : M), a < m.nb → ∀ n : Int, ACalls Tryz.prog 17 [.bp a 0, bkPV z.vars z.eqs] (spt p a m n) (fun v m' => ∃ V' Q' c, v = bkPV V' Q' ∧ (DB V' Q' ∧ wb V' Q' ≤ Fc * wb z.vars z.eqs) ∧ m' = spt p a m c)) → SpQ wb x y → P'.length ≤ P.length + 1 → (∀ q ∈ P', GQ E DB q) → (P'.map (wtQ wb)).sum ≤ (P.map (wtQ wb)).sum + wtQ wb x →
     f' 0 = .bp a 0 → f' 3 = .ep [.sl .no (vs.map Va.pv), .sl .no (l.map Qu.pv)] → f' 4 = .bp m.nb 0 → f' 5 = .bp (m.nb + 1) 0 → f' 6 = pI k → f' 7 = .bp (m.nb + (r.length + 1 + 1)) 0 → Toks m mn → Mine m mn o' 16 → s = spt p a (mn.ext (some [.sl .full [], .sl .full []] :: some [.sl .no (V.map Va.pv), .sl o' (P'.map Qu.pv)] :: (r ++ some [.v (.int .u8 y.kind), .sl ol (y.lhs.map pS), .v (.string y.name), .sl .no (y.args.map Ex.pv), .v (.bool y.has), .v (.int .u8 y.e.kind), .v (.int .u8 y.e.op), .v (.int .i32 y.e.n), .v (.string y.e.name), .sl .no (y.e.names.map pS), .sl .no (y.e.kids.map Ex.pv), .v (.int .i64 y.e.line), .v (.int .i64 y.e.col), .sl om (y.arms.map Am.pv), .v (.int .i64 y.line), .v (.int .i64 y.col)] :: r2))) (nxt c) → X f' s := by
  clear f0 f3 f4 f5 ht ho hnb hAm hnw hBx
  intro f' s y ol om o' P' mn r2 hyn hBy hsp hPl' hPd' hPw' f0 f3 f4 f5 f6' f7 ht ho hs
  subst hs
  have hnb := ht.nb
  have hAm : a < mn.nb := by omega
  obtain ⟨⟨hqe, hqs⟩, ⟨hqal, hqan, hqas⟩, ⟨hml, hmw⟩⟩ := hyn
  refine hX _ _ ?_
  clear hX X
  (repeat (first | refine aSeq fun X hX => ?_ | refine aReg ?_; simp -implicitDefEqProofs only [↓slp, ↓reduceIte, reduceCtorEq, jA, jB, jE, jF, Y0, f0, f7, hnb, hA, appQ]; try simp only [fo]))
  refine callM (sexprA_any p hp y.e hqe a _ (by rw [ext_nb]; omega) _) ?_
  rintro v m' ⟨e', n2, rfl, hKE, rfl⟩
  simp -implicitDefEqProofs only [↓slp, ↓reduceIte, reduceCtorEq, jA, jB, jE, jF, Y0, f7, hnb, hA, appQ, appQs]; try simp only [fo]
  (repeat (first | refine aSeq fun X hX => ?_ | refine aBlk ?_ | refine aReg ?_; simp -implicitDefEqProofs only [↓slp, jF, Y0] | apply hX; clear hX X))
  obtain ⟨J, hJ⟩ : ∃ J : F → M → Prop, ∀ f m', J f m' = (∃ (j : Nat) (o2 : Own) (mn : M) (R : List Ex) (c2 : Int), j ≤ y.args.length ∧ R.length = j ∧ (∀ z ∈ R, z.okw) ∧ f 0 = .bp a 0 ∧ f 3 = .ep [.sl .no (vs.map Va.pv), .sl .no (l.map Qu.pv)] ∧ f 4 = .bp m.nb 0 ∧ f 5 = .bp (m.nb + 1) 0 ∧ f 6 = pI k ∧ f 7 = .bp (m.nb + (r.length + 1 + 1)) 0 ∧ f 10 = .sl o2 (R.map Ex.pv) ∧ f 11 = pI j ∧
   m' = spt p a (mn.ext (some [.sl .full [], .sl .full []] :: some [.sl .no (V.map Va.pv), .sl o' (P'.map Qu.pv)] :: (r ++ some [.v (.int .u8 y.kind), .sl ol (y.lhs.map pS), .v (.string y.name), .sl .no (y.args.map Ex.pv), .v (.bool y.has), .v (.int .u8 e'.kind), .v (.int .u8 e'.op), .v (.int .i32 e'.n), .v (.string e'.name), .sl .no (e'.names.map pS), .sl .no (e'.kids.map Ex.pv), .v (.int .i64 e'.line), .v (.int .i64 e'.col), .sl om (y.arms.map Am.pv), .v (.int .i64 y.line), .v (.int .i64 y.col)] :: r2))) c2 ∧ Toks m mn ∧ Mine m mn o' 16 ∧ Mine m mn o2 8 ∧ (∀ t, o2 = .tok t → o' ≠ .tok t)) := ⟨_, fun _ _ => rfl⟩
  refine aLoop J (fun f m => y.args.length - numOf (f 11)) ?_ ?_
  ·rw [hJ]; exact ⟨0, .full, mn, [], _, by omega, rfl, (fun z hz => by cases hz), f0, f3, f4, f5, f6', f7, rfl, rfl, rfl, ht, ho, .full, fun t h => by cases h⟩
  clear f0 f3 f4 f5 f6' f7 ht ho hnb hAm
  intro g m' hrel
  rw [hJ] at hrel
  obtain ⟨j, o2, mn, R, c2, hj, hRl, hRo, f0, f3, f4, f5, f6', f7, f8, f9, rfl, ht, ho, ho2, hne⟩ := hrel
  have hnb := ht.nb
  have hAm : a < mn.nb := by omega
  cases d2 : decide ((j : Int) < (y.args.length : Int)) with
  | true =>
   have hjl : j < y.args.length := by simpa using d2
   have hgj := getD_map Ex.pv y.args j hjl
   have hji : IntKind.i64.wrap ((j : Int) + 1) = ((j + 1 : Nat) : Int) := by rw [wrap64 (by omega)]; omega
   have hjm : numOf (g 11) = j := by rw [f9]; exact Int.toNat_natCast j
   have hyn := Ex.nars_mem _ hqan _ (List.getElem_mem hjl)
   have hyb := hqas _ (List.getElem_mem hjl)
   generalize y.args[j] = z at *
   (repeat (first | refine aSeq fun X hX => ?_ | refine aBlk ?_ | refine aSkip ?_ | (first | apply aReg | apply aIf); simp -implicitDefEqProofs only [↓slp, ↓reduceIte, reduceCtorEq, jA, jB, jD, jE, jF, Y0, f0, f7, f8, f9, d2, hgj, hnb, hA, pI, appQ]; try simp only [fo] | apply hX; clear hX X | intro hlen; unfold maxLen at hlen | apply And.intro; focus omega))
   refine callM (sexprA_any p hp z hyn a _ (by rw [ext_nb]; omega) _) ?_
   rintro v m' ⟨z', n3, rfl, hKz, rfl⟩
   have hfree := ho2.free
   have q1 : R.length + 1 ≤ maxLen := by unfold maxLen; omega
   have q2 : (R.length + 1) * 88 ≤ 140737488355328 := by omega
   have q3 := ex_len R
   simp -implicitDefEqProofs only [↓slp, ↓reduceIte, jA, jB, jC, jE, jF, Y0, f9, pI]; try simp only [fo]
   (repeat (first | refine aReg ?_; simp -implicitDefEqProofs only [↓slp, ↓reduceIte, jA, jF, Y0, f9, hji, pI]; try simp only [fo] | apply hX; clear hX X | apply And.intro; focus ((repeat' apply And.intro) <;> first | omega | assumption)))
   rw [hJ]
   exact ⟨⟨j + 1, .tok mn.nt, _, R ++ [z'], n3, hjl, by simp [hRl], (fun w hw => by
    rcases List.mem_append.1 hw with hw | hw
    ·exact hRo w hw
    ·cases List.mem_singleton.1 hw
     exact hKz.okw hyb), f0, f3, f4, f5, f6', f7, by rw [List.map_append]; rfl, rfl, rfl, ht.use ho2, Mine.other ho hne, Mine.new ht o2 8, ho.ne_new⟩, by omega⟩
  | false =>
   have hj' : j = y.args.length := by simp at d2; omega
   subst hj'
   (repeat (first | refine aSeq fun X hX => ?_ | refine aBlk ?_ | refine aExit ?_; try simp only [slx, ↓reduceIte, jA, reduceCtorEq] | (first | apply aReg | apply aIf); simp -implicitDefEqProofs only [↓slp, ↓reduceIte, reduceCtorEq, jA, jB, jD, jE, jF, Y0, f7, f8, f9, d2, hnb, hA, pI, appQ, appQs] | apply hX; clear hX X | clear hX X; apply hX; clear hX X | intro hlen; unfold maxLen at hlen))
   obtain ⟨K, hK⟩ : ∃ K : F → M → Prop, ∀ f m', K f m' = (∃ (j : Nat) (o3 : Own) (mn : M) (rr : List (Option (List PV))) (A : List Am) (c3 : Int), j ≤ y.arms.length ∧ A.length = j ∧ ((∀ z ∈ A, DB z.vars z.eqs ∧ AmO z) ∧ (A.map (wtA wb)).sum ≤ Fc * ((y.arms.take j).map (wtA wb)).sum) ∧ f 0 = .bp a 0 ∧ f 3 = .ep [.sl .no (vs.map Va.pv), .sl .no (l.map Qu.pv)] ∧ f 4 = .bp m.nb 0 ∧ f 5 = .bp (m.nb + 1) 0 ∧ f 6 = pI k ∧ f 7 = .bp (m.nb + (r.length + 1 + 1)) 0 ∧ f 12 = .sl o3 (A.map Am.pv) ∧ f 13 = pI j ∧
    m' = spt p a (mn.ext (some [.sl .full [], .sl .full []] :: some [.sl .no (V.map Va.pv), .sl o' (P'.map Qu.pv)] :: (r ++ some [.v (.int .u8 y.kind), .sl ol (y.lhs.map pS), .v (.string y.name), .sl o2 (R.map Ex.pv), .v (.bool y.has), .v (.int .u8 e'.kind), .v (.int .u8 e'.op), .v (.int .i32 e'.n), .v (.string e'.name), .sl .no (e'.names.map pS), .sl .no (e'.kids.map Ex.pv), .v (.int .i64 e'.line), .v (.int .i64 e'.col), .sl om (y.arms.map Am.pv), .v (.int .i64 y.line), .v (.int .i64 y.col)] :: rr))) c3 ∧ Toks m mn ∧ Mine m mn o' 16 ∧ Mine m mn o3 7 ∧ (∀ t, o3 = .tok t → o' ≠ .tok t)) := ⟨_, fun _ _ => rfl⟩
   refine aLoop K (fun f m => y.arms.length - numOf (f 13)) ?_ ?_
   ·rw [hK]; exact ⟨0, .full, mn, r2, [], _, by omega, rfl, ⟨(fun z hz => by cases hz), Nat.zero_le _⟩, f0, f3, f4, f5, f6', f7, rfl, rfl, rfl, ht, ho, .full, fun t h => by cases h⟩
   clear f0 f3 f4 f5 f6' f7 f8 f9 ht ho ho2 hne hnb hAm
   intro g1 m' hrel
   rw [hK] at hrel
   obtain ⟨j, o3, mn, rr, A, c3, hj, hAl, ⟨hAd, hAw⟩, f0, f3, f4, f5, f6', f7, f10, f11, rfl, ht, ho, ho3, hne⟩ := hrel
   have hnb := ht.nb
   have hAm : a < mn.nb := by omega
   cases d2 : decide ((j : Int) < (y.arms.length : Int)) with
   | true =>
    have hjl : j < y.arms.length := by simpa using d2
    have hgj := getD_map Am.pv y.arms j hjl
    have hji : IntKind.i64.wrap ((j : Int) + 1) = ((j + 1 : Nat) : Int) := by rw [wrap64 (by omega)]; omega
    have hjm : numOf (g1 13) = j := by rw [f11]; exact Int.toNat_natCast j
    have hjk : y.arms.take (j + 1) = y.arms.take j ++ [y.arms[j]] := List.take_succ_eq_append_getElem hjl
    obtain ⟨⟨hul, hun⟩, ⟨htl, htn⟩⟩ := hmw _ (List.getElem_mem hjl)
    have hsj1 : ((y.arms.take (j + 1)).map (wtA wb)).sum = ((y.arms.take j).map (wtA wb)).sum + wtA wb y.arms[j] := by rw [hjk, List.map_append, List.sum_append]; simp
    obtain ⟨hBd, hBz⟩ := hBy _ (List.getElem_mem hjl)
    generalize y.arms[j] = z at *
    (repeat (first | refine aSeq fun X hX => ?_ | refine aSkip ?_ | (first | apply aReg | apply aIf); simp -implicitDefEqProofs only [↓slp, ↓reduceIte, reduceCtorEq, jA, jB, jD, jE, jF, Y0, f0, f7, f11, d2, hgj, hnb, hA, pI, appQ, appA, appAs, List.append_assoc, List.length_append] | apply hX; clear hX X | intro hlen; unfold maxLen at hlen | apply And.intro; focus omega))
    rename_i X43 hX43
    have join2 : ∀ (f2 : F) (nm : Str), f2 0 = .bp a 0 → f2 3 = .ep [.sl .no (vs.map Va.pv), .sl .no (l.map Qu.pv)] → f2 4 = .bp m.nb 0 → f2 5 = .bp (m.nb + 1) 0 → f2 6 = pI k → f2 7 = .bp (m.nb + (r.length + 1 + 1)) 0 → f2 12 = .sl o3 (A.map Am.pv) → f2 13 = pI j → f2 14 = .bp (m.nb + (r.length + (rr.length + 1) + 1 + 1)) 0 → X43 f2 (spt p a (mn.ext (some [.sl .full [], .sl .full []] :: some [.sl .no (V.map Va.pv), .sl o' (P'.map Qu.pv)] :: (r ++ some [.v (.int .u8 y.kind), .sl ol (y.lhs.map pS), .v (.string y.name), .sl o2 (R.map Ex.pv), .v (.bool y.has), .v (.int .u8 e'.kind), .v (.int .u8 e'.op), .v (.int .i32 e'.n), .v (.string e'.name), .sl .no (e'.names.map pS), .sl .no (e'.kids.map Ex.pv), .v (.int .i64 e'.line), .v (.int .i64 e'.col), .sl om (y.arms.map Am.pv), .v (.int .i64 y.line), .v (.int .i64 y.col)] :: (rr ++ [some [.v (.string nm), .sl .no (z.vars.map Va.pv), .sl .no (z.eqs.map Qu.pv), .sl .no (z.unl.map Tr.pv), .sl .no (z.til.map Tr.pv), .v (.int .i64 z.line), .v (.int .i64 z.col)]])))) (nxt c3)) := by
     clear f0 f3 f4 f5 f6' f7 f10 f11 hX X
     intro f2 nm f0 f3 f4 f5 f6' f7 f10 f11 f14
     refine hX43 _ _ ?_
     clear hX43 X43
     (repeat (first | refine aSeq fun X hX => ?_ | refine aReg ?_; simp -implicitDefEqProofs only [↓slp, ↓reduceIte, reduceCtorEq, jA, jB, jD, jF, Y0, f0, f14, hnb, hA, appA]))
     refine callM (sways_any p hp z.unl hul hun a _ (by rw [ext_nb]; omega) _) ?_
     rintro v m' ⟨U, n4, rfl, hUl, hUo, rfl⟩
     simp -implicitDefEqProofs only [↓slp, ↓reduceIte, reduceCtorEq, jA, jB, jE, jF, Y0, f14, hnb, hA, appA, appAs]
     (repeat (first | refine aSeq fun X hX => ?_ | refine aReg ?_; simp -implicitDefEqProofs only [↓slp, ↓reduceIte, reduceCtorEq, jA, jB, jE, jF, Y0, f0, f14, hnb, hA, appA] | apply hX; clear hX X))
     refine callM (hBz a _ (by rw [ext_nb]; omega) _) ?_
     rintro v m' ⟨V', Q', c4, rfl, ⟨hQd, hQw⟩, rfl⟩
     simp -implicitDefEqProofs only [↓slp, ↓reduceIte, reduceCtorEq, jA, jB, jE, jF, Y0, f14, hnb, hA, appA, appAs]
     (repeat (first | refine aSeq fun X hX => ?_ | refine aReg ?_; simp -implicitDefEqProofs only [↓slp, ↓reduceIte, reduceCtorEq, jA, jB, jD, jF, Y0, f0, f14, hnb, hA, appA] | apply hX; clear hX X))
     refine callM (sways_any p hp z.til htl htn a _ (by rw [ext_nb]; omega) _) ?_
     rintro v m' ⟨Wl, n5, rfl, hWl, hWo, rfl⟩
     have hfree := ho3.free
     have q1 : A.length + 1 ≤ maxLen := by unfold maxLen; omega
     have q3 := ams_len A
     simp -implicitDefEqProofs only [↓slp, ↓reduceIte, reduceCtorEq, jA, jB, jE, jF, Y0, f14, hnb, hA, appA, appAs]
     (repeat (first | refine aReg ?_; simp -implicitDefEqProofs only [forall_eq, ↓slp, ↓reduceIte, jA, jB, jC, jE, jF, Y0, f10, f11, f14, hji, hnb, hA, pI, appA] | apply hX; clear hX X | apply And.intro; focus ((repeat' apply And.intro) <;> first | omega | assumption)))
     have hwz : wtA wb (Am.mk nm V' Q' U Wl z.line z.col) ≤ Fc * wtA wb z := by
      have h1 := wt_join (a := 1 + z.unl.length + z.til.length) hF hQw
      show 1 + U.length + Wl.length + wb V' Q' ≤ Fc * (1 + z.unl.length + z.til.length + wb z.vars z.eqs)
      omega
     rw [hK]
     refine ⟨⟨j + 1, .tok mn.nt, _, rr ++ [_], A ++ [Am.mk nm V' Q' U Wl z.line z.col], _, hjl, by simp [hAl], ⟨fun w hw => ?_, ?_⟩, f0, f3, f4, f5, f6', f7, by rw [List.map_append, List.map_cons, List.map_nil, Am.pv_eq]; rfl, rfl, rfl, ht.use ho3, Mine.other ho hne, Mine.new ht o3 7, ho.ne_new⟩, by omega⟩
     ·rcases List.mem_append.1 hw with hw | hw
      ·exact hAd w hw
      ·cases List.mem_singleton.1 hw
       exact ⟨hQd, ⟨by show U.length ≤ _; omega, hUo⟩, ⟨by show Wl.length ≤ _; omega, hWo⟩⟩
     ·rw [List.map_append, List.sum_append, hsj1, Nat.mul_add]
      simp only [List.map_cons, List.map_nil, List.sum_cons, List.sum_nil]
      omega
    refine callM (snow_any p a _ (by rw [ext_nb]; omega) _) ?_
    rintro v m' ⟨rfl, rfl⟩
    generalize hn2 : (nxt c3 == p.1) = b2
    obtain ⟨b3, hb3⟩ : ∃ b3, (Int.tmod p.2 2 == 0) = b3 := ⟨_, rfl⟩
    cases b2 with
    | false =>
     simp -implicitDefEqProofs only [↓slp, slb, ↓reduceIte, jA, jF, f11, pB, pI]
     (repeat (first | refine aSkip ?_ | refine aIf ?_; simp -implicitDefEqProofs only [slb, ↓reduceIte, f11, pI] | apply hX; clear hX X))
     exact join2 _ z.name f0 f3 f4 f5 f6' f7 f10 f11 rfl
    | true =>
     cases b3 with
     | false =>
      simp -implicitDefEqProofs only [↓slp, ↓reduceIte, reduceCtorEq, jA, jB, jF, jK, Y0, f0, f11, pB, hb3, hnb, hA, pI]
      (repeat (first | refine aSkip ?_ | refine aIf ?_; simp -implicitDefEqProofs only [slb, ↓reduceIte, f11, pI] | apply hX; clear hX X))
      exact join2 _ z.name f0 f3 f4 f5 f6' f7 f10 f11 rfl
     | true =>
      simp -implicitDefEqProofs only [↓slp, ↓reduceIte, reduceCtorEq, jA, jB, jF, jK, Y0, f0, f11, pB, hb3, hnb, hA, pI]
      (repeat (first | (first | apply aReg | apply aIf); simp -implicitDefEqProofs only [↓slp, ↓reduceIte, reduceCtorEq, jA, jB, jE, jF, Y0, f11, hnb, hA, pI, appA, appAs] | apply hX; clear hX X))
      exact join2 _ ⟨#[82, 101, 100]⟩ f0 f3 f4 f5 f6' f7 f10 f11 rfl
   | false =>
    have hj' : j = y.arms.length := by simp at d2; omega
    subst hj'
    rw [List.take_length] at hAw
    have hfree := ho.free
    have q1 : P'.length + 1 ≤ maxLen := by unfold maxLen; omega
    have q3 := qu_len P'
    (repeat (first | refine aSeq fun X hX => ?_ | refine aExit ?_; try simp only [slx, ↓reduceIte, jA, reduceCtorEq] | (first | apply aReg | apply aIf); simp -implicitDefEqProofs only [forall_eq, ↓slp, ↓reduceIte, reduceCtorEq, jA, jB, jC, jD, jE, jF, Y0, f5, f6', f7, f10, f11, d2, hi, hnb, hA, pI, appQ, appQs] | apply hX; clear hX X | clear hX X; apply hX; clear hX X | intro hlen; unfold maxLen at hlen | apply And.intro; focus ((repeat' apply And.intro) <;> first | omega | assumption)))
    rw [hI]
    have hwy : wtQ wb (Qu.mk y.kind y.lhs y.name R y.has e' A y.line y.col) ≤ Fc * wtQ wb x := by
     have h1 := wt_join (a := 1 + y.lhs.length + y.args.length) hF hAw
     have h2 : Fc * (1 + y.lhs.length + y.args.length + (y.arms.map (wtA wb)).sum) ≤ Fc * wtQ wb x := Nat.mul_le_mul_left _ (by have := hsp.lhs; have := hsp.args; have := hsp.arms; unfold wtQ; omega)
     show 1 + y.lhs.length + R.length + (A.map (wtA wb)).sum ≤ _
     omega
    refine ⟨⟨k + 1, .tok mn.nt, _, r ++ _ :: rr, P' ++ [Qu.mk y.kind y.lhs y.name R y.has e' A y.line y.col], c3, hlt, by simp; omega, ⟨fun q hq => ?_, ?_⟩, f0, f3, f4, f5, rfl, by rw [List.map_append, List.map_cons, List.map_nil, Qu.pv_eq]; rfl, ht.use ho, Mine.new ht o' 16⟩, by omega⟩
    ·rcases List.mem_append.1 hq with hq | hq
     ·exact hPd' q hq
     ·cases List.mem_singleton.1 hq
      exact ⟨⟨fun h => hKE.ar E hE (by have h2 : y.kind = 1 := h; rw [hsp.kind] at h2; rw [hsp.e]; exact hGx.1 h2), fun h h0 => by
       have h2 : y.kind = 5 := h
       rw [hsp.kind] at h2
       have h3 := hsp.ne (hGx.2 h2)
       have h4 : A = [] := h0
       rw [h4] at hAl
       exact h3 (List.length_eq_zero_iff.1 hAl.symm)⟩, ⟨⟨hKE.nar, Nat.le_trans hKE.size hqs⟩, ⟨by show R.length ≤ _; omega, nars_of fun z hz => (hRo z hz).1, fun z hz => (hRo z hz).2⟩, ⟨by show A.length ≤ _; omega, fun z hz => (hAd z hz).2⟩⟩, fun z hz => (hAd z hz).1⟩
    ·rw [List.map_append, List.sum_append, hsk1, Nat.mul_add, Nat.add_mul Fc 1 (wtQ wb x), Nat.one_mul]
     simp only [List.map_cons, List.map_nil, List.sum_cons, List.sum_nil]
     omega
 have f7 : m.nb + (r.length + 1 + 1) = mm.nb + (r.length + 1 + 1) := by rw [hnb]
 cases b with
 | false =>
  (repeat (first | refine aSkip ?_ | refine aIf ?_; simp -implicitDefEqProofs only [slb, ↓reduceIte, f6, pB, pI]))
  exact join _ _ x .no .no o P mm [] hnw hBx (.refl wb x) (by omega) hPd (by omega) f0 f3 f4 f5 f6 (by rw [f7]; rfl) ht ho rfl
 | true =>
  obtain ⟨j, hj⟩ : ∃ j : Int, Int.tmod p.2 5 = j := ⟨_, rfl⟩
  (repeat (first | refine aSeq fun X hX => ?_ | (first | apply aReg | apply aIf); simp -implicitDefEqProofs only [↓slp, ↓reduceIte, reduceCtorEq, jB, jF, jK, Y0, f0, f6, pB, hnb, hA, pI, hj] | apply hX; clear hX X))
  refine ⟨fun hb => ?_, fun hb => ?_⟩
  ·(repeat (refine aExit ?_; try simp only [slx, ↓reduceIte, jA, reduceCtorEq]))
   first | (rename_i X1 hX1 X2 hX2; refine hX1 _ _ ?_; clear hX1) | (rename_i X1 hX1; refine hX1 _ _ ?_; clear hX1)
   (repeat (refine aReg ?_; simp -implicitDefEqProofs only [↓slp, slb, ↓reduceIte, jA, jF, f6, pI, hi]))
   rw [hI]
   exact ⟨⟨k + 1, o, mm, r ++ [_], P, _, hlt, by omega, ⟨hPd, by rw [hsk1, Nat.mul_add]; omega⟩, f0, f3, f4, f5, rfl, rfl, ht, ho⟩, by omega⟩
  (repeat (first | refine aSeq fun X hX => ?_ | (first | apply aReg | apply aIf); simp -implicitDefEqProofs only [↓slp, slb, ↓reduceIte, jA, jF] | apply hX; clear hX X))
  refine ⟨fun hb => ?_, fun hb => ?_⟩
  ·have hfree := ho.free
   have q1 : P.length + 1 ≤ maxLen := by unfold maxLen; omega
   have q3 := qu_len P
   (repeat (first | refine aReg ?_; simp -implicitDefEqProofs only [forall_eq, ↓slp, ↓reduceIte, reduceCtorEq, jA, jB, jC, jE, jF, Y0, f5, hnb, hA, appQ] | apply And.intro; focus ((repeat' apply And.intro) <;> first | omega | assumption)))
   exact join _ _ x .no .no (.tok mm.nt) (P ++ [x]) _ [] hnw hBx (.refl wb x) (by simp) (fun q hq => by
    rcases List.mem_append.1 hq with hq | hq
    ·exact hPd q hq
    ·cases List.mem_singleton.1 hq
     exact ⟨hGx, hnw.weak, fun z hz => (hBx z hz).1⟩) (by simp) f0 f3 f4 f5 f6 (by rw [f7]; rfl) (ht.use ho) (Mine.new ht o 16) (by rw [List.map_append, List.map_cons, List.map_nil, Qu.pv_eq]; rfl)
  (repeat (first | refine aSeq fun X hX => ?_ | (first | apply aReg | apply aIf); simp -implicitDefEqProofs only [↓slp, slb, ↓reduceIte, jA, jF] | apply hX; clear hX X))
  refine ⟨fun hb => ?_, fun hb => ?_⟩
  ·(repeat (first | refine aSeq fun X hX => ?_ | (first | apply aReg | apply aIf); simp -implicitDefEqProofs only [↓slp, ↓reduceIte, reduceCtorEq, jA, jB, jF, Y0, hnb, hA, appQ] | apply hX; clear hX X))
   refine ⟨fun hb => ?_, fun hb => ?_⟩
   ·(repeat (refine aReg ?_; simp -implicitDefEqProofs only [↓slp, ↓reduceIte, reduceCtorEq, jA, jB, jE, jF, Y0, hnb, hA, appQ, appQs]))
    exact join _ _ (Qu.mk x.kind x.lhs ⟨#[110, 111]⟩ x.args x.has x.e x.arms x.line x.col) .no .no o P mm [] ⟨hnw.e, hnw.args, hnw.arms⟩ hBx ⟨Nat.le_refl _, Nat.le_refl _, Nat.le_refl _, rfl, rfl, by first | exact fun h => h | (intro _ h; have h8 := of_decide_eq_true hb; have h9 : (x.arms.drop 1).length = 0 := (by rw [show x.arms.drop 1 = [] from h]; rfl); rw [List.length_drop] at h9; omega) | (intro _ h; have h9 := congrArg List.length h; simp [Qu.arms] at h9)⟩ (by omega) hPd (by omega) f0 f3 f4 f5 f6 (by rw [f7]; rfl) ht ho rfl
   ·(repeat (first | refine aSeq fun X hX => ?_ | (first | apply aReg | apply aIf); simp -implicitDefEqProofs only [↓slp, ↓reduceIte, reduceCtorEq, jA, jB, jD, jF, Y0, hnb, hA, appQ] | apply hX; clear hX X | intro hlen; unfold maxLen at hlen))
    refine ⟨fun hb => ?_, fun hb => ?_⟩
    ·(repeat (refine aReg ?_; simp -implicitDefEqProofs only [forall_eq, ↓slp, ↓reduceIte, reduceCtorEq, jA, jB, jC, jE, jF, Y0, hnb, hA, appQ, appQs]))
     exact join _ _ (Qu.mk x.kind [⟨#[120]⟩] x.name x.args x.has x.e x.arms x.line x.col) .full .no o P mm [] ⟨hnw.e, hnw.args, hnw.arms⟩ hBx ⟨by simp at hb; show 1 ≤ x.lhs.length; omega, Nat.le_refl _, Nat.le_refl _, rfl, rfl, by first | exact fun h => h | (intro _ h; have h8 := of_decide_eq_true hb; have h9 : (x.arms.drop 1).length = 0 := (by rw [show x.arms.drop 1 = [] from h]; rfl); rw [List.length_drop] at h9; omega) | (intro _ h; have h9 := congrArg List.length h; simp [Qu.arms] at h9)⟩ (by omega) hPd (by omega) f0 f3 f4 f5 f6 (by rw [f7]; rfl) ht ho rfl
    ·(repeat refine aSkip ?_)
     exact join _ _ x .no .no o P mm [] hnw hBx (.refl wb x) (by omega) hPd (by omega) f0 f3 f4 f5 f6 (by rw [f7]; rfl) ht ho rfl
  (repeat (first | refine aSeq fun X hX => ?_ | (first | apply aReg | apply aIf); simp -implicitDefEqProofs only [↓slp, slb, ↓reduceIte, jA, jF] | apply hX; clear hX X))
  refine ⟨fun hb => ?_, fun hb => ?_⟩
  ·(repeat (first | refine aSeq fun X hX => ?_ | (first | apply aReg | apply aIf); simp -implicitDefEqProofs only [↓slp, ↓reduceIte, reduceCtorEq, jA, jB, jD, jF, Y0, hnb, hA, appQ] | apply hX; clear hX X | intro hlen; unfold maxLen at hlen))
   refine ⟨fun hb => ?_, fun hb => ?_⟩
   ·have hl1 : (1 : Int) ≤ (x.args.length : Int) := by simp at hb; omega
    (repeat (refine aReg ?_; simp -implicitDefEqProofs only [↓slp, ↓reduceIte, reduceCtorEq, jA, jB, jD, jE, jF, jH, jJ, Y0, hnb, hA, appQ, appQs, hl1]))
    refine ⟨⟨Int.le_refl _, _, rfl, ex_len x.args⟩, ?_⟩
    exact join _ _ (Qu.mk x.kind x.lhs x.name (x.args.drop 1) x.has x.e x.arms x.line x.col) .no .no o P mm [] ⟨hnw.e, ⟨by show (x.args.drop 1).length ≤ _; rw [List.length_drop]; have := hnw.args.1; omega, nars_drop _ hnw.args.2.1, fun e he => hnw.args.2.2 e (List.mem_of_mem_drop he)⟩, hnw.arms⟩ hBx ⟨Nat.le_refl _, by show (x.args.drop 1).length ≤ _; rw [List.length_drop]; omega, Nat.le_refl _, rfl, rfl, by first | exact fun h => h | (intro _ h; have h8 := of_decide_eq_true hb; have h9 : (x.arms.drop 1).length = 0 := (by rw [show x.arms.drop 1 = [] from h]; rfl); rw [List.length_drop] at h9; omega) | (intro _ h; have h9 := congrArg List.length h; simp [Qu.arms] at h9)⟩ (by omega) hPd (by omega) f0 f3 f4 f5 f6 (by rw [f7]; rfl) ht ho (by rw [dropT Ex.pv x.args]; rfl)
   ·(repeat (first | refine aSeq fun X hX => ?_ | (first | apply aReg | apply aIf); simp -implicitDefEqProofs only [↓slp, ↓reduceIte, reduceCtorEq, jA, jB, jD, jF, Y0, hnb, hA, appQ] | apply hX; clear hX X | intro hlen; unfold maxLen at hlen))
    refine ⟨fun hb => ?_, fun hb => ?_⟩
    ·have hl1 : (1 : Int) ≤ (x.arms.length : Int) := by simp at hb; omega
     (repeat (refine aReg ?_; simp -implicitDefEqProofs only [↓slp, ↓reduceIte, reduceCtorEq, jA, jB, jD, jE, jF, jH, jJ, Y0, hnb, hA, appQ, appQs, hl1]))
     refine ⟨⟨Int.le_refl _, _, rfl, ams_len x.arms⟩, ?_⟩
     exact join _ _ (Qu.mk x.kind x.lhs x.name x.args x.has x.e (x.arms.drop 1) x.line x.col) .no .no o P mm [] ⟨hnw.e, hnw.args, ⟨by show (x.arms.drop 1).length ≤ _; rw [List.length_drop]; have := hnw.arms.1; omega, fun z hz => hnw.arms.2 z (List.mem_of_mem_drop hz)⟩⟩ (fun z hz => hBx z (List.mem_of_mem_drop hz)) ⟨Nat.le_refl _, Nat.le_refl _, sum_drop1 _ x.arms, rfl, rfl, by first | exact fun h => h | (intro _ h; have h8 := of_decide_eq_true hb; have h9 : (x.arms.drop 1).length = 0 := (by rw [show x.arms.drop 1 = [] from h]; rfl); rw [List.length_drop] at h9; omega) | (intro _ h; have h9 := congrArg List.length h; simp [Qu.arms] at h9)⟩ (by omega) hPd (by omega) f0 f3 f4 f5 f6 (by rw [f7]; rfl) ht ho (by rw [dropT Am.pv x.arms]; rfl)
    ·(repeat refine aSkip ?_)
     exact join _ _ x .no .no o P mm [] hnw hBx (.refl wb x) (by omega) hPd (by omega) f0 f3 f4 f5 f6 (by rw [f7]; rfl) ht ho rfl
  (repeat (first | refine aSeq fun X hX => ?_ | (first | apply aReg | apply aIf); simp -implicitDefEqProofs only [↓slp, ↓reduceIte, reduceCtorEq, jA, jB, jF, Y0, hnb, hA, appQ] | apply hX; clear hX X))
  refine ⟨fun hb => ?_, fun hb => ?_⟩
  ·(repeat (refine aReg ?_; simp -implicitDefEqProofs only [↓slp, ↓reduceIte, reduceCtorEq, jA, jB, jE, jF, Y0, hnb, hA, appQ, appQs]))
   exact join _ _ (Qu.mk x.kind x.lhs ⟨#[102, 48]⟩ x.args x.has x.e x.arms x.line x.col) .no .no o P mm [] ⟨hnw.e, hnw.args, hnw.arms⟩ hBx ⟨Nat.le_refl _, Nat.le_refl _, Nat.le_refl _, rfl, rfl, by first | exact fun h => h | (intro _ h; have h8 := of_decide_eq_true hb; have h9 : (x.arms.drop 1).length = 0 := (by rw [show x.arms.drop 1 = [] from h]; rfl); rw [List.length_drop] at h9; omega) | (intro _ h; have h9 := congrArg List.length h; simp [Qu.arms] at h9)⟩ (by omega) hPd (by omega) f0 f3 f4 f5 f6 (by rw [f7]; rfl) ht ho rfl
  ·(repeat (first | refine aSeq fun X hX => ?_ | (first | apply aReg | apply aIf); simp -implicitDefEqProofs only [↓slp, ↓reduceIte, reduceCtorEq, jA, jB, jD, jF, Y0, hnb, hA, appQ] | apply hX; clear hX X | intro hlen; unfold maxLen at hlen))
   refine ⟨fun hb => ?_, fun hb => ?_⟩
   ·obtain ⟨a0, a1, rs, hm⟩ : ∃ a0 a1 rs, x.arms = a0 :: a1 :: rs := by
      match h : x.arms with
      | [] => rw [h] at hb; simp at hb
      | [_] => rw [h] at hb; simp at hb
      | a0 :: a1 :: rs => exact ⟨_, _, _, rfl⟩
    (repeat (first | refine aSeq fun X hX => ?_ | refine aReg ?_; simp -implicitDefEqProofs only [forall_eq, ↓slp, ↓reduceIte, reduceCtorEq, jA, jB, jC, jD, jE, jF, jH, jJ, Y0, hnb, hA, appQ, appB, appBs, List.append_assoc, List.length_append, hm] | apply hX; clear hX X | apply And.intro; focus omega))
    refine ⟨by unfold maxLen; omega, ?_⟩
    have hfr := (Mine.new ht .full 7).free
    have hml := hnw.arms.1
    rw [hm] at hml
    simp only [List.length_cons] at hml
    have q1 : 1 + (rs.length + 1) ≤ maxLen := by unfold maxLen; omega
    refine hX _ _ ?_
    clear hX X
    have htk0 : List.take rs.length (List.map Am.pv rs) = List.map Am.pv rs := List.take_of_length_le (by simp)
    (repeat (refine aReg ?_; simp -implicitDefEqProofs only [forall_eq, ↓slp, ↓reduceIte, reduceCtorEq, jA, jB, jD, jE, jF, jH, jJ, Y0, hnb, hA, appQ, appQs, htk0]))
    have hw : ∀ z ∈ x.arms, (z.unl.length ≤ 100000000 ∧ ∀ t ∈ z.unl, t.e.okg) ∧ (z.til.length ≤ 100000000 ∧ ∀ t ∈ z.til, t.e.okg) := hnw.arms.2
    rw [hm] at hw
    have hBx' := hBx
    rw [hm] at hBx'
    refine ⟨⟨by omega, Int.le_refl _, _, rfl, rfl, rfl, ams_len rs⟩, ⟨hfr, ams_len rs, q1, by omega⟩, ?_⟩
    have ht2 := ht.use (s := 7) (Mine.full (m0 := m) (m := mm) (s := 7))
    exact join _ _ (Qu.mk x.kind x.lhs x.name x.args x.has x.e (Am.mk a1.name a0.vars a0.eqs a0.unl a0.til a0.line a0.col :: a1 :: rs) x.line x.col) .no (.tok (mm.fresh 7).nt) o P _ [_] ⟨hnw.e, hnw.args, ⟨by show (rs.length + 1 + 1) ≤ _; exact hml, fun z hz => by
     rcases List.mem_cons.1 hz with rfl | hz
     ·exact hw a0 (List.mem_cons_self ..)
     ·exact hw z (List.mem_cons_of_mem _ hz)⟩⟩ (fun z hz => by
     rcases List.mem_cons.1 hz with rfl | hz
     ·exact hBx' a0 (List.mem_cons_self ..)
     ·exact hBx' z (List.mem_cons_of_mem _ hz)) ⟨Nat.le_refl _, Nat.le_refl _, by rw [hm]; exact Nat.le_refl _, rfl, rfl, by first | exact fun h => h | (intro _ h; have h8 := of_decide_eq_true hb; have h9 : (x.arms.drop 1).length = 0 := (by rw [show x.arms.drop 1 = [] from h]; rfl); rw [List.length_drop] at h9; omega) | (intro _ h; have h9 := congrArg List.length h; simp [Qu.arms] at h9)⟩ (by omega) hPd (by omega) f0 f3 f4 f5 f6 (by rw [f7]; rfl) (ht2.use (Mine.new ht .full 7)) (Mine.other (Mine.other (o := .full) ho (fun t h => by cases h)) ho.ne_new) (by rw [show PV.ag [PV.v (Value.string a1.name), PV.sl Own.no (List.map Va.pv a0.vars), PV.sl Own.no (List.map Qu.pv a0.eqs), PV.sl Own.no (List.map Tr.pv a0.unl), PV.sl Own.no (List.map Tr.pv a0.til), PV.v (Value.int IntKind.i64 a0.line), PV.v (Value.int IntKind.i64 a0.col)] = Am.pv (Am.mk a1.name a0.vars a0.eqs a0.unl a0.til a0.line a0.col) from by rw [Am.pv_eq]; rfl]; rfl)
   ·(repeat refine aSkip ?_)
    exact join _ _ x .no .no o P mm [] hnw hBx (.refl wb x) (by omega) hPd (by omega) f0 f3 f4 f5 f6 (by rw [f7]; rfl) ht ho rfl
def GB (E : List En) : Nat → List Va → List Qu → Prop
 | 0 => fun V Q => (∀ v ∈ V, v.first.okw) ∧ ∀ q ∈ Q, GQ E (fun _ _ => False) q
 | d + 1 => fun V Q => (∀ v ∈ V, v.first.okw) ∧ ∀ q ∈ Q, GQ E (GB E d) q
theorem sblock_any {E : List En} (hE : ColE E) : ∀ (d : Nat) (p : Int × Int) (hp : 0 ≤ p.2) (vs : List Va) (l : List Qu), NwG d vs l → GB E d vs l → ∀ (a : Nat) (m : M), a < m.nb → ∀ n : Int, ACalls Tryz.prog 17 [.bp a 0, bkPV vs l] (spt p a m n) (fun v m' => ∃ V' Q' c, v = bkPV V' Q' ∧ (GB E d V' Q' ∧ wtF d V' Q' ≤ (d + 2) * wtF d vs l) ∧ m' = spt p a m c)
 | 0, p, hp, vs, l, h, hd, a, m, hA, n => ACalls.mono (sblock_step hE (DB := fun _ _ => False) (wb := fun _ _ => 0) (Fc := 1) (Nat.le_refl _) p hp vs l h.1 h.2.1 h.2.2.1 (fun q hq => (h.2.2.2 q hq).1) (fun q hq => (hd.2 q hq).1) (fun q hq x hx => by have := (h.2.2.2 q hq).2; rw [this] at hx; cases hx) a m hA n) (fun v m' ⟨V', Q', c, h1, h2, h3⟩ => ⟨V', Q', c, h1, h2, h3⟩)
 | d + 1, p, hp, vs, l, h, hd, a, m, hA, n => ACalls.mono (sblock_step hE (DB := GB E d) (wb := wtF d) (Fc := d + 2) (by omega) p hp vs l h.1 h.2.1 h.2.2.1 (fun q hq => (h.2.2.2 q hq).1) (fun q hq => (hd.2 q hq).1) (fun q hq x hx => ⟨(hd.2 q hq).2.2 x hx, fun a m hA n => sblock_any hE d p hp x.vars x.eqs ((h.2.2.2 q hq).2 x hx) ((hd.2 q hq).2.2 x hx) a m hA n⟩) a m hA n) (fun v m' ⟨V', Q', c, h1, h2, h3⟩ => ⟨V', Q', c, h1, h2, h3⟩)
end Go.Proofs.YthhhnfjcaicjnaaGreatDoor
