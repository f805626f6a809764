/-
 Texts that belong together: TpO, TpU.
-/
-- halved
import Derived.Test.YtibhhoknipdlpaaTpK
import Derived.Test.YtibhhoknipdlpaaPlA
import Derived.Test.YtibhhoknipdlpaaTpT
/-
 Places for all parts: a program.
-/
set_option linter.unusedVariables false
set_option linter.unusedSimpArgs false
namespace Go.Proofs.Ytibhhoknipdlpaa
open Nat renaming reduceEqDiff → jA, reduceAdd → jB, reduceMul → jC, reduceLT → jD, reduceLeDiff → jE, reduceBEq → jF, reduceBNe → jG
open Int renaming reduceLE → jH, reduceLT → jI, reduceToNat → jJ, reduceEq → jK
open Go
-- EXX: No.settle_pv, No.pure_pv, No.cells_pv, No.cs, Qu.settle_pv, En.settle_pv, En.pure_pv, En.cells_pv, En.cs
set_option maxRecDepth 20000
-- TNAMES: int; uint8; int32; string; bool; []string; []api.Expr; api.Expr; *metronomeref04.counter; metronomeref04.counter; api.Pos; api.Type; []api.On; api.Var; []api.Var; api.Equation; []api.Equation; api.Block; api.Node; []api.Node; api.Enum; []api.Enum; api.Program
set_option linter.defProp false
def Y8 := And.intro @slb (And.intro @tfA (And.intro @Ex.settle_pv (And.intro @Ex.pure_pv (And.intro @Ex.cells_pv (And.intro @Ex.cs.eq_1 (And.intro @On.pv.eq_1 (And.intro @Ty.pv.eq_1 (And.intro @Va.settle_pv (And.intro @Va.pure_pv (And.intro @Va.cells_pv (And.intro @Va.cs.eq_1 (And.intro @No.settle_pv (And.intro @No.pure_pv (And.intro @No.cells_pv (And.intro @No.cs.eq_1 (And.intro @Qu.settle_pv (And.intro @En.settle_pv (And.intro @En.pure_pv (And.intro @En.cells_pv @En.cs.eq_1)))))))))))))))))))

theorem cnt_liftR {P : Program} {mm : M} {a : Nat} (h : mm.nb + 1 = a) {f : FuncId} {args : List PV} {z : Option (List PV)} {r : List (Option (List PV))} {c : Int} {S : List Va → List Qu → Int → Prop}
    (hc : ACalls P f args (cnt a (mm.ext (z :: some (cN c) :: r)) c) (fun v m' => ∃ V' Q' c', v = bkPV V' Q' ∧ S V' Q' c' ∧ m' = cnt a (mm.ext (z :: some (cN c) :: r)) c')) : ACalls P f args (mm.ext (z :: some (cN c) :: r)) (fun v m' => ∃ V' Q' c', v = bkPV V' Q' ∧ S V' Q' c' ∧ m' = mm.ext (z :: some (cN c') :: r)) := by
 rw [cnt_mk h] at hc
 exact ACalls.mono hc fun v m' ⟨V', Q', c', h1, h2, h3⟩ => ⟨V', Q', c', h1, h2, by rw [h3, cnt_mk h]⟩
/-- A node whose lists are short. -/
structure No.nw (d : Nat) (n : No) : Prop where
 ins : n.ins.length ≤ 100000000 ∧ ∀ v ∈ n.ins, v.first.ok1
 outs : n.outs.length ≤ 100000000 ∧ ∀ v ∈ n.outs, v.first.ok1
 b : NwB d n.b.vars n.b.eqs
 wt : wtF d n.b.vars n.b.eqs ≤ 2 ^ 40
def plEn (e : En) (c : Int) : En × Int := (⟨e.name, e.ctors, nxt c, 1⟩, nxt c)
def plEns : List En → Int → List En × Int
 | [], c => ([], c)
 | v :: l, c => ((plEn v c).1 :: (plEns l (plEn v c).2).1, (plEns l (plEn v c).2).2)
theorem plEns_snoc (l : List En) (x : En) : ∀ c, plEns (l ++ [x]) c = ((plEns l c).1 ++ [(plEn x (plEns l c).2).1], (plEn x (plEns l c).2).2) := by
 induction l with
 | nil => intro c; simp [plEns]
 | cons a l ih => intro c; simp [plEns, ih]
theorem plEns_len (l : List En) : ∀ c, (plEns l c).1.length = l.length := by
 induction l with
 | nil => intro c; rfl
 | cons a l ih => intro c; simp [plEns, ih]
theorem plEns_cnt : ∀ (l : List En) (c : Int), 0 ≤ c → c + (l.length : Int) ≤ 2 ^ 60 → (plEns l c).2 = c + (l.length : Int)
 | [], c, _, _ => by simp [plEns]
 | e :: l, c, h0, hc => by
  simp only [List.length_cons] at hc ⊢
  rw [plEns]
  show (plEns l (nxt c)).2 = _
  rw [nxt_id h0 (by omega), plEns_cnt l _ (by omega) (by omega)]
  omega
theorem en_len4 (l : List En) : ∀ x ∈ l.map En.pv, x.cells.length = 4 := fun x hx => by
 obtain ⟨a, _, rfl⟩ := List.mem_map.1 hx
 rfl
theorem same_plEns : ∀ (l : List En) (c : Int), sameL smE l (plEns l c).1 = true
 | [], c => rfl
 | e :: l, c => by
  rw [plEns]
  simp only [sameL, Bool.and_eq_true]
  refine ⟨?_, same_plEns l _⟩
  show (eqS e.name e.name && sameL eqS e.ctors e.ctors) = true
  rw [show eqS e.name e.name = true from eqS_iff.2 rfl, show sameL eqS e.ctors e.ctors = true from (sameL_iff (fun a b => eqS_iff)).2 rfl]; rfl
set_option maxHeartbeats 8000000 in
theorem placedP_any {d : Nat} (E : List En) (hEl : E.length ≤ 100000000) (l : List No) (hl : l.length ≤ 100) (hx : ∀ n ∈ l, n.nw d) (m : M) :
    ACalls Try.prog 37 [prPV E l] m (fun v m' => (∃ E' l', v = prPV E' l' ∧ (sameL smE E E' && sameL (smN d) l l') = true) ∧ m' = m) := by
 refine ACalls.enter (mu := [2, 4, 6, 8, 10]) ok_mix Try.func37 rfl (by kernel_rfl) (by kernel_rfl) (by simp only [List.length_cons, List.length_nil, Try.ntmps37]; omega) ?_
 (repeat (first | refine aSeq fun X hX => ?_ | refine aBlk ?_ | refine aReg ?_; simp -implicitDefEqProofs only [↓slp, ↓reduceIte, jA, jB, jE, jF, Y8] | apply hX; clear hX X))
 obtain ⟨I, hI⟩ : ∃ I : F → M → Prop, ∀ f m', I f m' = (∃ (k : Nat) (o : Own) (mm : M) (r : List (Option (List PV))), k ≤ E.length ∧ f 1 = .ep [.sl .no (E.map En.pv), .sl .no (l.map No.pv)] ∧ f 2 = .bp m.nb 0 ∧ f 3 = .bp (m.nb + 1) 0 ∧ f 4 = .bp (m.nb + 2) 0 ∧ f 5 = pI k ∧
  m' = mm.ext (some [.sl .full [], .sl .full []] :: some (cN (plEns (E.take k) 0).2) :: some [.sl o ((plEns (E.take k) 0).1.map En.pv), .sl .full []] :: r) ∧ Toks m mm ∧ Mine m mm o 4) := ⟨_, fun _ _ => rfl⟩
 refine aLoop I (fun f m => E.length - numOf (f 5)) ?_ ?_
 ·rw [hI]; exact ⟨0, .full, m, [], by omega, rfl, rfl, rfl, rfl, rfl, rfl, .refl m, .full⟩
 intro f m' hrel
 rw [hI] at hrel
 obtain ⟨k, o, mm, r, hk, f1, f2, f3, f4, f5, rfl, ht, ho⟩ := hrel
 have hnb := ht.nb
 have hA : mm.nb + 1 = m.nb + 1 := by omega
 cases c1 : decide ((k : Int) < (E.length : Int)) with
 | false =>
  have hk' : k = E.length := by simp at c1; omega
  subst hk'
  rw [List.take_length]
  have hEs := same_plEns E 0
  have hEc := plEns_cnt E 0 (Int.le_refl _) (by omega)
  generalize plEns E 0 = PE at *
  (repeat (first | refine aSeq fun X hX => ?_ | refine aBlk ?_ | refine aExit ?_; try simp only [slx, ↓reduceIte, jA, reduceCtorEq] | (first | apply aReg | apply aIf); simp -implicitDefEqProofs only [↓slp, ↓reduceIte, reduceCtorEq, jA, jB, jE, jF, Y8, f1, f5, c1, pI] | apply hX; clear hX X | clear hX X; apply hX; clear hX X | intro hlen; unfold maxLen at hlen))
  generalize o = oE at *
  obtain ⟨I, hI⟩ : ∃ I : F → M → Prop, ∀ f m', I f m' = (∃ (k : Nat) (o : Own) (mm : M) (r : List (Option (List PV))) (P : List No) (c : Int), k ≤ l.length ∧ P.length = k ∧ (sameL (smN d) (l.take k) P = true ∧ 0 ≤ c ∧ c ≤ 100000000 + (k : Int) * 2 ^ 53) ∧ f 1 = .ep [.sl .no (E.map En.pv), .sl .no (l.map No.pv)] ∧ f 2 = .bp m.nb 0 ∧ f 3 = .bp (m.nb + 1) 0 ∧ f 4 = .bp (m.nb + 2) 0 ∧ f 7 = pI k ∧
   m' = mm.ext (some [.sl .full [], .sl .full []] :: some (cN c) :: some [.sl oE (PE.1.map En.pv), .sl o (P.map No.pv)] :: r) ∧ Toks m mm ∧ Mine m mm o 7) := ⟨_, fun _ _ => rfl⟩
  refine aLoop I (fun f m => l.length - numOf (f 7)) ?_ ?_
  ·rw [hI]; exact ⟨0, .full, mm, r, [], _, by omega, rfl, ⟨rfl, by omega, by omega⟩, f1, f2, f3, f4, rfl, rfl, ht, .full⟩
  clear f1 f2 f3 f4 f5 ht ho hnb hA
  intro f m' hrel
  rw [hI] at hrel
  obtain ⟨k, o, mm, r, P, c, hk, hPl, ⟨hPs, hc0, hc1⟩, f1, f2, f3, f4, f7, rfl, ht, ho⟩ := hrel
  have hnb := ht.nb
  have hA : mm.nb + 1 = m.nb + 1 := by omega
  cases c1 : decide ((k : Int) < (l.length : Int)) with
  | false =>
   have hk' : k = l.length := by simp at c1; omega
   subst hk'
   rw [List.take_length] at hPs
   (repeat (first | refine aSeq fun X hX => ?_ | (first | refine aExit ?_ | refine aRet ?_); try simp only [slx, ↓reduceIte, jA, reduceCtorEq] | (first | apply aReg | apply aIf); simp -implicitDefEqProofs only [↓slp, ↓reduceIte, reduceCtorEq, jA, jB, jE, jF, Y8, f1, f2, f4, f7, c1, hnb, pI] | apply hX; clear hX X | clear hX X; apply hX; clear hX X | intro hlen; unfold maxLen at hlen))
   simp only [aPost, Try.results37, aRes_n, aRes_t, aRes_c, pack_one, pack_two]
   simp -implicitDefEqProofs only [↓reduceIte, jA, jB, jE, Y8, f2, hnb]
   exact leave_toks ht rfl ⟨⟨_, _, rfl, by rw [hEs, hPs]; rfl⟩, rfl⟩
  | true =>
  have hlt : k < l.length := by simpa using c1
  have hg := getD_map No.pv l k hlt
  have hi : IntKind.i64.wrap ((k : Int) + 1) = ((k + 1 : Nat) : Int) := by rw [wrap64 (by omega)]; omega
  have hme : numOf (f 7) = k := by rw [f7]; exact Int.toNat_natCast k
  have htk : l.take (k + 1) = l.take k ++ [l[k]] := List.take_succ_eq_append_getElem hlt
  obtain ⟨⟨hi1, hi2⟩, ⟨ho1, ho2⟩, hnw, hwt⟩ := hx _ (List.getElem_mem hlt)
  have hnc : nxt c = c + 1 := nxt_id hc0 (by omega)
  have hwt' : (wtF d l[k].b.vars l[k].b.eqs : Int) ≤ 2 ^ 40 := by exact_mod_cast hwt
  generalize l[k] = x at *
  (repeat (first | refine aSeq fun X hX => ?_ | refine aSkip ?_ | (first | apply aReg | apply aIf); simp -implicitDefEqProofs only [↓slp, ↓reduceIte, reduceCtorEq, jA, jB, jE, jF, Y8, f1, f3, f7, c1, hg, hnb, pI, List.getElem?_concat_length, set_concat_length] | apply hX; clear hX X | intro hlen; unfold maxLen at hlen | apply And.intro; focus omega))
  refine callE (cnt_lift hA (cnext_any _ _ (cnt_in hA) _)) ?_
  simp -implicitDefEqProofs only [↓slp, ↓reduceIte, reduceCtorEq, jA, jB, jE, jF, Y8, f7, hnb, pI, List.getElem?_concat_length, set_concat_length]
  (repeat (first | refine aSeq fun X hX => ?_ | refine aReg ?_; simp -implicitDefEqProofs only [↓slp, ↓reduceIte, reduceCtorEq, jA, jB, jD, jF, Y8, f3, hnb, List.getElem?_concat_length] | apply hX; clear hX X))
  refine callE (cnt_lift hA (cvars_any x.ins hi1 (fun v hv => (hi2 v hv).1) _ _ (cnt_in hA) _)) ?_
  have hs1 := same_plVs x.ins (nxt c)
  have hv1 := plVs_cnt x.ins (nxt c) (fun v hv => (hi2 v hv).2) (by omega) (by omega)
  generalize plVs x.ins (nxt c) = V1 at *
  simp -implicitDefEqProofs only [↓slp, ↓reduceIte, reduceCtorEq, jA, jB, jE, jF, Y8, f7, hnb, pI, List.getElem?_concat_length, set_concat_length]
  (repeat (first | refine aSeq fun X hX => ?_ | refine aReg ?_; simp -implicitDefEqProofs only [↓slp, ↓reduceIte, reduceCtorEq, jA, jB, jD, jF, Y8, f3, hnb, List.getElem?_concat_length] | apply hX; clear hX X))
  refine callE (cnt_lift hA (cvars_any x.outs ho1 (fun v hv => (ho2 v hv).1) _ _ (cnt_in hA) _)) ?_
  have hs2 := same_plVs x.outs V1.2
  have hv2 := plVs_cnt x.outs V1.2 (fun v hv => (ho2 v hv).2) (by omega) (by omega)
  generalize plVs x.outs V1.2 = V2 at *
  simp -implicitDefEqProofs only [↓slp, ↓reduceIte, reduceCtorEq, jA, jB, jE, jF, Y8, f7, hnb, pI, List.getElem?_concat_length, set_concat_length]
  (repeat (first | refine aSeq fun X hX => ?_ | refine aReg ?_; simp -implicitDefEqProofs only [↓slp, ↓reduceIte, reduceCtorEq, jA, jB, jE, jF, Y8, f3, hnb, List.getElem?_concat_length] | apply hX; clear hX X))
  refine callM (cnt_liftR (S := fun V' Q' c' => smF d x.b.vars x.b.eqs V' Q' = true ∧ V2.2 ≤ c' ∧ c' ≤ V2.2 + 1001 * (wtF d x.b.vars x.b.eqs : Int)) hA (cblock_rel d x.b.vars x.b.eqs hnw _ _ (cnt_in hA) V2.2 (by omega) (by omega))) ?_
  rintro v m' ⟨V', Q', c4, rfl, ⟨hs3, hb0, hb1⟩, rfl⟩
  have hfree := ho.free
  have q1 : P.length + 1 ≤ maxLen := by unfold maxLen; omega
  have q2 : (P.length + 1) * 136 ≤ 140737488355328 := by omega
  have q3 := no_len7 P
  simp -implicitDefEqProofs only [↓slp, ↓reduceIte, reduceCtorEq, jA, jB, jE, jF, Y8, f7, hnb, pI, List.getElem?_concat_length, set_concat_length]
  (repeat (first | refine aReg ?_; simp -implicitDefEqProofs only [forall_eq, ↓slp, ↓reduceIte, reduceCtorEq, jA, jB, jC, jE, jF, Y8, f4, f7, hi, hnb, pI, List.getElem?_concat_length] | apply hX; clear hX X | apply And.intro; focus ((repeat' apply And.intro) <;> first | omega | assumption)))
  rw [hI]
  have hxm : smN d x ⟨x.name, V1.1, V2.1, ⟨V', Q'⟩, nxt c, 1⟩ = true := by
   show (eqS x.name x.name && sameL Va.same x.ins V1.1 && sameL Va.same x.outs V2.1 && smF d x.b.vars x.b.eqs V' Q') = true
   rw [show eqS x.name x.name = true from eqS_iff.2 rfl, hs1, hs2, hs3]; rfl
  exact ⟨⟨k + 1, .tok mm.nt, _, r ++ [_], P ++ [⟨x.name, V1.1, V2.1, ⟨V', Q'⟩, nxt c, 1⟩], c4, hlt, by simp [hPl], ⟨by rw [htk]; exact sameL_snoc hPs hxm, by omega, by omega⟩, f1, f2, f3, f4, rfl, by rw [List.map_append, List.map_cons, List.map_nil]; rfl, ht.use ho, Mine.new ht o 7⟩, by omega⟩
 | true =>
 have hlt : k < E.length := by simpa using c1
 have hg := getD_map En.pv E k hlt
 have hi : IntKind.i64.wrap ((k : Int) + 1) = ((k + 1 : Nat) : Int) := by rw [wrap64 (by omega)]; omega
 have hme : numOf (f 5) = k := by rw [f5]; exact Int.toNat_natCast k
 have htk : E.take (k + 1) = E.take k ++ [E[k]] := List.take_succ_eq_append_getElem hlt
 have hsn := plEns_snoc (E.take k) E[k] 0
 rw [← htk] at hsn
 have hlen := plEns_len (E.take k) 0
 rw [List.length_take, Nat.min_eq_left hk] at hlen
 generalize E[k] = x at *
 generalize hP : plEns (E.take k) 0 = P at *
 have hpn : plEn x P.2 = (⟨x.name, x.ctors, nxt P.2, 1⟩, nxt P.2) := rfl
 (repeat (first | refine aSeq fun X hX => ?_ | refine aSkip ?_ | (first | apply aReg | apply aIf); simp -implicitDefEqProofs only [↓slp, ↓reduceIte, reduceCtorEq, jA, jB, jE, jF, Y8, f1, f3, f5, c1, hg, hnb, pI, List.getElem?_concat_length, set_concat_length] | apply hX; clear hX X | intro hlen; unfold maxLen at hlen | apply And.intro; focus omega))
 refine callE (cnt_lift hA (cnext_any _ _ (cnt_in hA) _)) ?_
 have hfree := ho.free
 have q1 : P.1.length + 1 ≤ maxLen := by unfold maxLen; omega
 have q3 := en_len4 P.1
 simp -implicitDefEqProofs only [↓slp, ↓reduceIte, reduceCtorEq, jA, jB, jE, jF, Y8, f5, hnb, pI, List.getElem?_concat_length, set_concat_length]
 (repeat (first | refine aReg ?_; simp -implicitDefEqProofs only [forall_eq, ↓slp, ↓reduceIte, reduceCtorEq, jA, jB, jC, jE, jF, Y8, f4, f5, hi, hnb, pI, List.getElem?_concat_length] | apply hX; clear hX X | apply And.intro; focus ((repeat' apply And.intro) <;> first | omega | assumption)))
 rw [hI]
 exact ⟨⟨k + 1, .tok mm.nt, _, r ++ [_], hlt, f1, f2, f3, f4, rfl, by rw [hsn, hpn, List.map_append, List.map_cons, List.map_nil]; rfl, ht.use ho, Mine.new ht o 4⟩, by omega⟩
end Go.Proofs.Ytibhhoknipdlpaa

/-
 The spoiler: a program.
-/
set_option linter.unusedVariables false
set_option linter.unusedSimpArgs false
namespace Go.Proofs.Ytibhhoknipdlpaa
open Nat renaming reduceEqDiff → jA, reduceAdd → jB, reduceMul → jC, reduceLT → jD, reduceLeDiff → jE, reduceBEq → jF, reduceBNe → jG
open Int renaming reduceLE → jH, reduceLT → jI, reduceToNat → jJ, reduceEq → jK
open Go
-- EXX: No.settle_pv, No.pure_pv, No.cells_pv, No.cs, Qu.settle_pv, En.settle_pv, En.pure_pv, En.cells_pv, En.cs
set_option maxRecDepth 20000
-- TNAMES: int; uint8; uint16; int32; string; bool; []string; []api.Expr; api.Expr; *metronomeref04.counter; metronomeref04.counter; *metronomeref04.spoiler; metronomeref04.spoiler; api.Pos; api.Type; []api.On; api.Var; []api.Var; api.Equation; []api.Equation; api.Block; api.Node; []api.Node; api.Enum; []api.Enum; api.Program


theorem spt_mk {p : Int × Int} {m : M} {x z y : Option (List PV)} {r : List (Option (List PV))} {a : Nat} {c : Int} (h : m.nb + 2 = a) : spt p a (m.ext (x :: z :: y :: r)) c = m.ext (x :: z :: some (sN p c) :: r) := by
 subst h
 unfold spt
 rw [ext_upd (i := 2) rfl]
 rfl
theorem spt_in {mm : M} {a : Nat} (h : mm.nb + 2 = a) {x z y : Option (List PV)} {r : List (Option (List PV))} : a < (mm.ext (x :: z :: y :: r)).nb := by
 rw [ext_nb]; simp only [List.length_cons]; omega
theorem spt_lift {p : Int × Int} {P : Program} {mm : M} {a : Nat} (h : mm.nb + 2 = a) {f : FuncId} {args : List PV} {x z : Option (List PV)} {r : List (Option (List PV))} {c : Int} {α : Type} {S : α → PV → Int → Prop}
    (hc : ACalls P f args (spt p a (mm.ext (x :: z :: some (sN p c) :: r)) c) (fun v m' => ∃ y c', S y v c' ∧ m' = spt p a (mm.ext (x :: z :: some (sN p c) :: r)) c')) : ACalls P f args (mm.ext (x :: z :: some (sN p c) :: r)) (fun v m' => ∃ y c', S y v c' ∧ m' = mm.ext (x :: z :: some (sN p c') :: r)) := by
 rw [spt_mk h] at hc
 exact ACalls.mono hc fun v m' ⟨y, c', h1, h2⟩ => ⟨y, c', h1, by rw [h2, spt_mk h]⟩
set_option maxHeartbeats 8000000 in
theorem spoil_any {d W : Nat} (E : List En) (l : List No) (hl : l.length ≤ 100) (hx : ∀ n ∈ l, n.nw d) (hd : ∀ n ∈ l, DpB d n.b.eqs ∧ wtF d n.b.vars n.b.eqs ≤ W) (at' how : Int) (hat : 0 ≤ at' ∧ at' ≤ 65535) (hhow : 0 ≤ how ∧ how ≤ 255) (m : M) :
    ACalls Try.prog 34 [prPV E l, .v (.int .u16 at'), .v (.int .u8 how)] m (fun v m' => (∃ l' : List No, v = prPV E l' ∧ l'.length = l.length ∧ ∀ n ∈ l', DpB d n.b.eqs ∧ wtF d n.b.vars n.b.eqs ≤ (d + 2) * W) ∧ m' = m) := by
 have hw1 : IntKind.i64.wrap at' = at' := wrap64 (by omega)
 have hw2 : IntKind.i64.wrap how = how := wrap64 (by omega)
 refine ACalls.enter (mu := [6, 11, 13, 15, 52]) ok_mix Try.func34 rfl (by kernel_rfl) (by kernel_rfl) (by simp only [List.length_cons, List.length_nil, Try.ntmps34]; omega) ?_
 (repeat (first | refine aSeq fun X hX => ?_ | refine aBlk ?_ | refine aReg ?_; simp -implicitDefEqProofs only [↓slp, ↓reduceIte, jB, jF, Y8] | apply hX; clear hX X))
 obtain ⟨I, hI⟩ : ∃ I : F → M → Prop, ∀ f m', I f m' = (∃ (k : Nat) (c : Int), k ≤ l.length ∧ (0 ≤ c ∧ c ≤ (k : Int) * 2 ^ 53) ∧ f 1 = .v (.int .u16 at') ∧ f 2 = .v (.int .u8 how) ∧ f 3 = .ep [.sl .no (E.map En.pv), .sl .no (l.map No.pv)] ∧ f 6 = .bp m.nb 0 ∧ f 7 = .bp (m.nb + 1) 0 ∧ f 8 = pI k ∧
  m' = m.ext [some [.sl .full [], .sl .full []], some (cN c)]) := ⟨_, fun _ _ => rfl⟩
 refine aLoop I (fun f m => l.length - numOf (f 8)) ?_ ?_
 ·rw [hI]; exact ⟨0, 0, by omega, by omega, rfl, rfl, rfl, rfl, rfl, rfl, rfl⟩
 intro f m' hrel
 rw [hI] at hrel
 obtain ⟨k, c, hk, ⟨hc0, hc1⟩, f1, f2, f3, f6, f7, f8, rfl⟩ := hrel
 have hA : m.nb + 1 = m.nb + 1 := rfl
 cases c1 : decide ((k : Int) < (l.length : Int)) with
 | true =>
  have hlt : k < l.length := by simpa using c1
  have hg := getD_map No.pv l k hlt
  have hi : IntKind.i64.wrap ((k : Int) + 1) = ((k + 1 : Nat) : Int) := by rw [wrap64 (by omega)]; omega
  have hme : numOf (f 8) = k := by rw [f8]; exact Int.toNat_natCast k
  obtain ⟨⟨hi1, hi2⟩, ⟨ho1, ho2⟩, hnw, hwt⟩ := hx _ (List.getElem_mem hlt)
  have hwt' : (wtF d l[k].b.vars l[k].b.eqs : Int) ≤ 2 ^ 40 := by exact_mod_cast hwt
  generalize l[k] = x at *
  (repeat (first | refine aSeq fun X hX => ?_ | refine aSkip ?_ | (first | apply aReg | apply aIf); simp -implicitDefEqProofs only [↓slp, ↓reduceIte, reduceCtorEq, jA, jB, jE, jF, Y8, f3, f7, f8, c1, hg, pI] | apply hX; clear hX X | intro hlen; unfold maxLen at hlen | apply And.intro; focus omega))
  refine callE (cnt_lift hA (cvars_any x.ins hi1 (fun v hv => (hi2 v hv).1) _ _ (cnt_in hA) _)) ?_
  have hv1 := plVs_cnt x.ins c (fun v hv => (hi2 v hv).2) (by omega) (by omega)
  generalize plVs x.ins c = V1 at *
  simp -implicitDefEqProofs only [slb, f8, pI]
  (repeat (first | refine aSeq fun X hX => ?_ | refine aReg ?_; simp -implicitDefEqProofs only [↓slp, ↓reduceIte, reduceCtorEq, jA, jB, jE, jF, Y8, f7] | apply hX; clear hX X))
  refine callE (cnt_lift hA (cvars_any x.outs ho1 (fun v hv => (ho2 v hv).1) _ _ (cnt_in hA) _)) ?_
  have hv2 := plVs_cnt x.outs V1.2 (fun v hv => (ho2 v hv).2) (by omega) (by omega)
  generalize plVs x.outs V1.2 = V2 at *
  simp -implicitDefEqProofs only [slb, f8, pI]
  (repeat (first | refine aReg ?_; simp -implicitDefEqProofs only [↓slp, ↓reduceIte, reduceCtorEq, jA, jB, jE, jF, Y8, f7] | apply hX; clear hX X))
  refine callM (cnt_liftR (S := fun V' Q' c' => smF d x.b.vars x.b.eqs V' Q' = true ∧ V2.2 ≤ c' ∧ c' ≤ V2.2 + 1001 * (wtF d x.b.vars x.b.eqs : Int)) hA (cblock_rel d x.b.vars x.b.eqs hnw _ _ (cnt_in hA) V2.2 (by omega) (by omega))) ?_
  rintro v m' ⟨V', Q', c4, rfl, ⟨hs3, hb0, hb1⟩, rfl⟩
  simp -implicitDefEqProofs only [slb, f8, pI]
  (repeat (first | refine aReg ?_; simp -implicitDefEqProofs only [↓slp, slb, ↓reduceIte, jA, jF, f8, hi, pI] | apply hX; clear hX X))
  rw [hI]
  exact ⟨⟨k + 1, c4, hlt, ⟨by omega, by omega⟩, f1, f2, f3, f6, f7, rfl, rfl⟩, by omega⟩
 | false =>
  have hk' : k = l.length := by simp at c1; omega
  subst hk'
  have hc2 : IntKind.i64.wrap (c + 1) = c + 1 := wrap64 (by omega)
  have hc3 : (c + 1 == 0) = false := by simp; omega
  have hc4 : c + 1 ≠ 0 := by omega
  (repeat (first | refine aSeq fun X hX => ?_ | refine aBlk ?_ | refine aExit ?_; try simp only [slx, ↓reduceIte, jA, reduceCtorEq] | (first | apply aReg | apply aIf); simp -implicitDefEqProofs only [↓slp, ↓reduceIte, reduceCtorEq, jA, jB, jD, jE, jF, Y8, f1, f2, f3, f7, f8, c1, hw1, hw2, hc2, hc4, pI] | apply hX; clear hX X | clear hX X; apply hX; clear hX X | intro hlen; unfold maxLen at hlen))
  obtain ⟨p, hp, hp2⟩ : ∃ p : Int × Int, p = (IntKind.i64.wrap (1 + Int.tmod at' (c + 1)), how) ∧ 0 ≤ p.2 := ⟨_, rfl, hhow.1⟩
  clear hI hc0 hc1 c1 f8
  obtain ⟨I, hI⟩ : ∃ I : F → M → Prop, ∀ f m', I f m' = (∃ (k : Nat) (o : Own) (mm : M) (r : List (Option (List PV))) (P : List No) (cc : Int), k ≤ l.length ∧ P.length = k ∧ (∀ n ∈ P, DpB d n.b.eqs ∧ wtF d n.b.vars n.b.eqs ≤ (d + 2) * W) ∧ f 3 = .ep [.sl .no (E.map En.pv), .sl .no (l.map No.pv)] ∧ f 6 = .bp m.nb 0 ∧ f 10 = .bp (m.nb + 2) 0 ∧ f 11 = .bp (m.nb + 3) 0 ∧ f 12 = pI k ∧
   m' = mm.ext (some [.sl .full [], .sl .full []] :: some (cN c) :: some (sN p cc) :: some [.sl .no (E.map En.pv), .sl o (P.map No.pv)] :: r) ∧ Toks m mm ∧ Mine m mm o 7) := ⟨_, fun _ _ => rfl⟩
  refine aLoop I (fun f m => l.length - numOf (f 12)) ?_ ?_
  ·rw [hI]; exact ⟨0, .full, m, [], [], 0, by omega, rfl, (fun n hn => by cases hn), f3, f6, rfl, rfl, rfl, by rw [hp]; rfl, .refl m, .full⟩
  clear f1 f2 f3 f6 f7 hA hp
  intro f m' hrel
  rw [hI] at hrel
  obtain ⟨k, o, mm, r, P, cc, hk, hPl, hPd, f3, f6, f10, f11, f12, rfl, ht, ho⟩ := hrel
  have hnb := ht.nb
  have hA : mm.nb + 2 = m.nb + 2 := by omega
  cases c1 : decide ((k : Int) < (l.length : Int)) with
  | false =>
   have hk' : k = l.length := by simp at c1; omega
   subst hk'
   (repeat (first | refine aSeq fun X hX => ?_ | (first | refine aExit ?_ | refine aRet ?_); try simp only [slx, ↓reduceIte, jA, reduceCtorEq] | (first | apply aReg | apply aIf); simp -implicitDefEqProofs only [↓slp, ↓reduceIte, reduceCtorEq, jA, jB, jE, jF, Y8, f3, f6, f11, f12, c1, hnb, pI] | apply hX; clear hX X | clear hX X; apply hX; clear hX X | intro hlen; unfold maxLen at hlen))
   simp only [aPost, Try.results34, aRes_n, aRes_t, aRes_c, pack_one, pack_two]
   simp -implicitDefEqProofs only [↓reduceIte, jA, jB, jE, Y8, f6, hnb]
   exact leave_toks ht rfl ⟨⟨_, rfl, hPl, hPd⟩, rfl⟩
  | true =>
  have hlt : k < l.length := by simpa using c1
  have hg := getD_map No.pv l k hlt
  have hi : IntKind.i64.wrap ((k : Int) + 1) = ((k + 1 : Nat) : Int) := by rw [wrap64 (by omega)]; omega
  have hme : numOf (f 12) = k := by rw [f12]; exact Int.toNat_natCast k
  obtain ⟨⟨hi1, hi2⟩, ⟨ho1, ho2⟩, hnw, hwt⟩ := hx _ (List.getElem_mem hlt)
  obtain ⟨hd1, hd2⟩ := hd _ (List.getElem_mem hlt)
  generalize l[k] = x at *
  (repeat (first | refine aSeq fun X hX => ?_ | refine aSkip ?_ | (first | apply aReg | apply aIf); simp -implicitDefEqProofs only [↓slp, ↓reduceIte, reduceCtorEq, jA, jB, jD, jE, jF, Y8, f3, f10, f12, c1, hg, hnb, pI, List.getElem?_concat_length, set_concat_length] | apply hX; clear hX X | intro hlen; unfold maxLen at hlen | apply And.intro; focus omega))
  refine callM (spt_lift (α := List Va) (S := fun l' v c' => v = .sl .no (l'.map Va.pv)) hA (ACalls.mono (svars_any p hp2 x.ins hi1 (fun v hv => (hi2 v hv).1) _ _ (spt_in hA) _) fun v m' ⟨l', n', h1, h2, h3⟩ => ⟨l', n', h1, h3⟩)) ?_
  rintro v m' ⟨l1, n1, rfl, rfl⟩
  simp -implicitDefEqProofs only [↓slp, ↓reduceIte, reduceCtorEq, jA, jB, jE, jF, Y8, f12, hnb, pI, List.getElem?_concat_length, set_concat_length]
  (repeat (first | refine aSeq fun X hX => ?_ | refine aReg ?_; simp -implicitDefEqProofs only [↓slp, ↓reduceIte, reduceCtorEq, jA, jB, jD, jF, Y8, f10, hnb, List.getElem?_concat_length] | apply hX; clear hX X))
  refine callM (spt_lift (α := List Va) (S := fun l' v c' => v = .sl .no (l'.map Va.pv)) hA (ACalls.mono (svars_any p hp2 x.outs ho1 (fun v hv => (ho2 v hv).1) _ _ (spt_in hA) _) fun v m' ⟨l', n', h1, h2, h3⟩ => ⟨l', n', h1, h3⟩)) ?_
  rintro v m' ⟨l2, n2, rfl, rfl⟩
  simp -implicitDefEqProofs only [↓slp, ↓reduceIte, reduceCtorEq, jA, jB, jE, jF, Y8, f12, hnb, pI, List.getElem?_concat_length, set_concat_length]
  (repeat (first | refine aSeq fun X hX => ?_ | refine aReg ?_; simp -implicitDefEqProofs only [↓slp, ↓reduceIte, reduceCtorEq, jA, jB, jE, jF, Y8, f10, hnb, List.getElem?_concat_length] | apply hX; clear hX X))
  refine callM (spt_lift (α := List Va × List Qu) (S := fun b v c' => v = bkPV b.1 b.2 ∧ DpB d b.2 ∧ wtF d b.1 b.2 ≤ (d + 2) * wtF d x.b.vars x.b.eqs) hA (ACalls.mono (sblock_any d p hp2 x.b.vars x.b.eqs hnw hd1 _ _ (spt_in hA) _) fun v m' ⟨V', Q', n', h1, h2, h3⟩ => ⟨(V', Q'), n', ⟨h1, h2⟩, h3⟩)) ?_
  rintro v m' ⟨⟨V', Q'⟩, n3, ⟨rfl, hq1, hq2⟩, rfl⟩
  have hfree := ho.free
  have q1 : P.length + 1 ≤ maxLen := by unfold maxLen; omega
  have q2 : (P.length + 1) * 136 ≤ 140737488355328 := by omega
  have q3 := no_len7 P
  simp -implicitDefEqProofs only [↓slp, ↓reduceIte, reduceCtorEq, jA, jB, jE, jF, Y8, f12, hnb, pI, List.getElem?_concat_length, set_concat_length]
  (repeat (first | refine aReg ?_; simp -implicitDefEqProofs only [forall_eq, ↓slp, ↓reduceIte, reduceCtorEq, jA, jB, jC, jE, jF, Y8, f11, f12, hi, hnb, pI, List.getElem?_concat_length] | apply hX; clear hX X | apply And.intro; focus ((repeat' apply And.intro) <;> first | omega | assumption)))
  rw [hI]
  refine ⟨⟨k + 1, .tok mm.nt, _, r ++ [_], P ++ [⟨x.name, l1, l2, ⟨V', Q'⟩, x.line, x.col⟩], n3, hlt, by simp [hPl], fun n hn => ?_, f3, f6, f10, f11, rfl, by rw [List.map_append, List.map_cons, List.map_nil]; rfl, ht.use ho, Mine.new ht o 7⟩, by omega⟩
  rcases List.mem_append.1 hn with hn | hn
  ·exact hPd n hn
  ·cases List.mem_singleton.1 hn
   exact ⟨hq1, Nat.le_trans hq2 (Nat.mul_le_mul_left _ hd2)⟩
end Go.Proofs.Ytibhhoknipdlpaa
