/-
 Texts that belong together: AbPl1, AbPl2, AbPl3.
-/
-- halved
import Derived.Test.YthhhnfjcaicjnaaGreatDoorAbMac
import Derived.Test.YthhhnfjcaicjnaaGreatDoorExA
import Derived.Test.YthhhnfjcaicjnaaGreatDoorQA
import Derived.Test.YthhhnfjcaicjnaaGreatDoorAbKit
set_option linter.unusedVariables false
set_option linter.unusedSimpArgs false
namespace Go.Proofs.YthhhnfjcaicjnaaGreatDoor
open Nat renaming reduceEqDiff → jA, reduceAdd → jB, reduceMul → jC, reduceLT → jD, reduceLeDiff → jE, reduceBEq → jF, reduceBNe → jG
open Int renaming reduceLE → jH, reduceLT → jI, reduceToNat → jJ, reduceEq → jK
open Go
set_option maxRecDepth 20000
set_option linter.defProp false
def tfAbPl1 := And.intro @tfA (And.intro @Ex.settle_pv (And.intro @Ex.pure_pv (And.intro @Ex.cells_pv (And.intro @Ex.cs.eq_1 (And.intro @On.pv.eq_1 (And.intro @Ty.pv.eq_1 (And.intro @Va.settle_pv (And.intro @Va.pure_pv (And.intro @Va.cells_pv (And.intro @Va.cs.eq_1 (And.intro @Tr.settle_pv (And.intro @Tr.pure_pv (And.intro @Tr.cells_pv (And.intro @Tr.cs.eq_1 (And.intro @cnt_nb (And.intro @cnt_nt (And.intro @cnt_fresh (And.intro @cnt_use (And.intro @cnt_free (And.intro @cnt_alive (And.intro @cnt_a (And.intro @cnt_upda (And.intro @cnt_ext (And.intro @cnt_ext2 (And.intro @cnt_ea (And.intro @cnt_own (And.intro @cnt_own0 (And.intro @cnt_ou @cnt_ou0))))))))))))))))))))))))))))

def nxt (n : Int) : Int := IntKind.i64.wrap (n + 1)
mutual
def plE : Ex → Int → Ex × Int
 | .mk k o n nm ns ks _ _, c => (.mk k o n nm ns (plEs ks (nxt c)).1 (nxt c) 1, (plEs ks (nxt c)).2)
def plEs : List Ex → Int → List Ex × Int
 | [], c => ([], c)
 | e :: l, c => ((plE e c).1 :: (plEs l (plE e c).2).1, (plEs l (plE e c).2).2)
end
theorem plE_eq (e : Ex) (c : Int) : plE e c = (.mk e.kind e.op e.n e.name e.names (plEs e.kids (nxt c)).1 (nxt c) 1, (plEs e.kids (nxt c)).2) := by cases e; rw [plE]; rfl
theorem plEs_snoc (l : List Ex) (x : Ex) : ∀ c, plEs (l ++ [x]) c = ((plEs l c).1 ++ [(plE x (plEs l c).2).1], (plE x (plEs l c).2).2) := by
 induction l with
 | nil => intro c; simp [plEs]
 | cons a l ih => intro c; simp [plEs, ih]
theorem plEs_len (l : List Ex) : ∀ c, (plEs l c).1.length = l.length := by
 induction l with
 | nil => intro c; rfl
 | cons a l ih => intro c; simp [plEs, ih]

mutual
def Ex.nar : Ex → Prop
 | .mk _ _ _ _ _ ks _ _ => ks.length ≤ 1000000000 ∧ Ex.nars ks
def Ex.nars : List Ex → Prop
 | [] => True
 | e :: l => e.nar ∧ Ex.nars l
end
theorem Ex.nars_mem : ∀ (l : List Ex), Ex.nars l → ∀ e ∈ l, e.nar
 | [], _, e, h => by cases h
 | a :: l, hg, e, h => by
  rcases List.mem_cons.1 h with rfl | h
  ·exact hg.1
  ·exact Ex.nars_mem l hg.2 e h
theorem Ex.nar_x {e : Ex} (h : e.nar) : e.kids.length ≤ 1000000000 ∧ Ex.nars e.kids := by cases e; exact h
theorem ex_len (l : List Ex) : ∀ x ∈ l.map Ex.pv, x.cells.length = 8 := fun x hx => by
 obtain ⟨a, _, rfl⟩ := List.mem_map.1 hx
 rw [Ex.cells_pv]; rfl

set_option maxHeartbeats 1000000 in
theorem cnext_any (a : Nat) (m : M) (hA : a < m.nb) (n : Int) : ACalls Tryz.prog 13 [.bp a 0] (cnt a m n) (fun v m' => v = .ag [.v (.int .i64 (nxt n)), .v (.int .i64 1)] ∧ m' = cnt a m (nxt n)) := by
 refine eN [2] Tryz.func13 ?_
 (repeat revert X); refine wD (And.intro tfAbPl1 hA) ?_; repeat intro X hX
 refine wQ Tryz.results13 (And.intro tfAbPl1 hA) ?_
 exact leave_cnt hA (.refl m) rfl ⟨rfl, rfl⟩

def CEx (e : Ex) : Prop := e.nar → ∀ (a : Nat) (m : M), a < m.nb → ∀ n, ACalls Tryz.prog 32 [.bp a 0, e.pv] (cnt a m n) (fun v m' => v = (plE e n).1.pv ∧ m' = cnt a m (plE e n).2)
set_option maxHeartbeats 4000000 in
theorem cexpr_any (e : Ex) : CEx e := by
 refine Ex.ind (motive := CEx) (fun e IH => ?_) e
 intro hn a m hA n
 obtain ⟨hkl, hks⟩ := Ex.nar_x hn
 have he := plE_eq e n
 refine eN [3, 4] Tryz.func32 ?_
 (repeat revert X); refine wE (And.intro tfAbPl1 hA) ?_; repeat intro X hX
 refine callM (cnext_any a _ xA n) ?_
 rintro v m' ⟨rfl, rfl⟩
 refine wS (And.intro tfAbPl1 hA) ?_
 (repeat revert X); refine wE tfAbPl1 ?_; repeat intro X hX
 obtain ⟨I, hI⟩ : ∃ I : F → M → Prop, ∀ f m', I f m' = (∃ (k : Nat) (o : Own) (mm : M), k ≤ e.kids.length ∧ f 0 = .bp a 0 ∧ f 3 = .bp m.nb 0 ∧ f 4 = .bp (m.nb + 1) 0 ∧ f 5 = .sl o ((plEs (e.kids.take k) (nxt n)).1.map Ex.pv) ∧ f 6 = pI k ∧
  m' = cnt a (mm.ext [some [.v (.int .u8 e.kind), .v (.int .u8 e.op), .v (.int .i32 e.n), .v (.string e.name), .sl .no (e.names.map pS), .sl .no (e.kids.map Ex.pv), .v (.int .i64 (nxt n)), .v (.int .i64 1)], some [.v (.int .u8 0), .v (.int .u8 0), .v (.int .i32 0), .v (.string ⟨#[]⟩), .sl .full [], .sl .full [], .v (.int .i64 0), .v (.int .i64 0)]]) (plEs (e.kids.take k) (nxt n)).2 ∧ Toks m mm ∧ Mine m mm o 8) := ⟨_, fun _ _ => rfl⟩
 refine aLoop I (fun f m => e.kids.length - numOf (f 6)) ?_ ?_
 ·rw [hI]; exact ⟨0, .full, m, by omega, rfl, rfl, rfl, rfl, rfl, rfl, .refl m, .full⟩
 intro f m' hrel
 rw [hI] at hrel
 obtain ⟨k, o, mm, hk, f0, f3, f4, f5, f6, rfl, ht, ho⟩ := hrel
 have hnb := ht.nb
 have hAm : a < mm.nb := by omega
 rw [← hnb] at f3 f4
 cases c1 : decide ((k : Int) < (e.kids.length : Int)) with
 | true =>
  have hlt : k < e.kids.length := by simpa using c1
  have hg := getD_map Ex.pv e.kids k hlt
  have hi : IntKind.i64.wrap ((k : Int) + 1) = ((k + 1 : Nat) : Int) := by rw [wrap64 (by omega)]; omega
  have hme : numOf (f 6) = k := by rw [f6]; exact Int.toNat_natCast k
  have htk : e.kids.take (k + 1) = e.kids.take k ++ [e.kids[k]] := List.take_succ_eq_append_getElem hlt
  have hsn := plEs_snoc (e.kids.take k) e.kids[k] (nxt n)
  rw [← htk] at hsn
  have hlen := plEs_len (e.kids.take k) (nxt n)
  rw [List.length_take, Nat.min_eq_left hk] at hlen
  have ih := IH k hlt (Ex.nars_mem _ hks _ (List.getElem_mem hlt))
  generalize e.kids[k] = x at *
  generalize hP : plEs (e.kids.take k) (nxt n) = P at *
  (repeat (first | refine aSeq fun X hX => ?_ | refine aBlk ?_ | refine aSkip ?_ | (first | apply aReg | apply aIf); simp -implicitDefEqProofs only [↓slp, slb, ↓reduceIte, reduceCtorEq, jA, jB, jD, jE, jF, tfAbPl1, f0, f3, f5, f6, pI, c1, hAm, hg]; try simp only [fo] | apply hX; clear hX X | intro hlen; unfold maxLen at hlen | apply And.intro; focus omega))
  refine callM (ih a _ (by rw [ext_nb]; omega) _) ?_
  rintro v m' ⟨rfl, rfl⟩
  generalize plE x P.2 = q at *
  have hfree := ho.free
  have q1 : P.1.length + 1 ≤ maxLen := by unfold maxLen; omega
  have q2 : (P.1.length + 1) * 88 ≤ 140737488355328 := by omega
  have q3 := ex_len P.1
  refine wS (And.intro tfAbPl1 (And.intro f6 @pI.eq_1)) ?_
  refine ⟨⟨hfree, q3, q1, q2⟩, ?_⟩
  (repeat (first | refine aReg ?_; simp -implicitDefEqProofs only [↓slp, slb, ↓reduceIte, jA, jF, tfAbPl1, f6, pI, hi]; try simp only [fo] | apply hX; clear hX X))
  rw [hI]
  exact ⟨⟨k + 1, .tok mm.nt, _, hlt, f0, by rw [← hnb]; exact f3, by rw [← hnb]; exact f4, by rw [hsn, List.map_append]; rfl, rfl, by rw [hsn], ht.use ho, Mine.new ht o 8⟩, by omega⟩
 | false =>
  have hk' : k = e.kids.length := by simp at c1; omega
  subst hk'
  rw [List.take_length] at f5
  rw [List.take_length]
  generalize plEs e.kids (nxt n) = P at *
  (repeat revert X); refine wE (And.intro tfAbPl1 (And.intro f3 (And.intro f4 (And.intro f5 (And.intro f6 (And.intro @pI.eq_1 (And.intro c1 hAm))))))) ?_; repeat intro X hX
  refine wQ Tryz.results32 (And.intro tfAbPl1 (And.intro f4 hAm)) ?_
  exact leave_cnt hA ht rfl ⟨by rw [he, Ex.pv_eq]; rfl, by rw [he]⟩
def plV (v : Va) (c : Int) : Va × Int := (⟨v.name, v.t, v.clock, v.last, (plE v.first (nxt c)).1, nxt c, 1⟩, (plE v.first (nxt c)).2)
def plVs : List Va → Int → List Va × Int
 | [], c => ([], c)
 | v :: l, c => ((plV v c).1 :: (plVs l (plV v c).2).1, (plVs l (plV v c).2).2)
theorem plVs_snoc (l : List Va) (x : Va) : ∀ c, plVs (l ++ [x]) c = ((plVs l c).1 ++ [(plV x (plVs l c).2).1], (plV x (plVs l c).2).2) := by
 induction l with
 | nil => intro c; simp [plVs]
 | cons a l ih => intro c; simp [plVs, ih]
theorem plVs_len (l : List Va) : ∀ c, (plVs l c).1.length = l.length := by
 induction l with
 | nil => intro c; rfl
 | cons a l ih => intro c; simp [plVs, ih]
theorem va_len (l : List Va) : ∀ x ∈ l.map Va.pv, x.cells.length = 15 := fun x hx => by
 obtain ⟨a, _, rfl⟩ := List.mem_map.1 hx
 rfl
set_option maxHeartbeats 4000000 in
theorem cvars_any (l : List Va) (hl : l.length ≤ 1000000000) (hx : ∀ v ∈ l, v.first.nar) (a : Nat) (m : M) (hA : a < m.nb) (n : Int) : ACalls Tryz.prog 14 [.bp a 0, .sl .no (l.map Va.pv)] (cnt a m n) (fun v m' => v = .sl .no ((plVs l n).1.map Va.pv) ∧ m' = cnt a m (plVs l n).2) := by
 refine eN [7] Tryz.func14 ?_
 (repeat revert X); refine wE tfAbPl1 ?_; repeat intro X hX
 obtain ⟨I, hI⟩ : ∃ I : F → M → Prop, ∀ f m', I f m' = (∃ (k : Nat) (o : Own) (mb : M), k ≤ l.length ∧ f 0 = .bp a 0 ∧ f 1 = .sl .no (l.map Va.pv) ∧ f 5 = .sl o ((plVs (l.take k) n).1.map Va.pv) ∧ f 6 = pI k ∧ m' = cnt a mb (plVs (l.take k) n).2 ∧ BaseR m mb ∧ Mine m mb o 15) := ⟨_, fun _ _ => rfl⟩
 refine aLoop I (fun f m => l.length - numOf (f 6)) ?_ ?_
 ·rw [hI]; exact ⟨0, .full, m, by omega, rfl, rfl, rfl, rfl, rfl, .refl m, .full⟩
 intro f m' hrel
 rw [hI] at hrel
 obtain ⟨k, o, mb, hk, f0, f1, f5, f6, rfl, hB, ho⟩ := hrel
 have hAb : a < mb.nb := Nat.lt_of_lt_of_le hA hB.nb
 cases c1 : decide ((k : Int) < (l.length : Int)) with
 | true =>
  have hlt : k < l.length := by simpa using c1
  have hg := getD_map Va.pv l k hlt
  have hi : IntKind.i64.wrap ((k : Int) + 1) = ((k + 1 : Nat) : Int) := by rw [wrap64 (by omega)]; omega
  have hme : numOf (f 6) = k := by rw [f6]; exact Int.toNat_natCast k
  have htk : l.take (k + 1) = l.take k ++ [l[k]] := List.take_succ_eq_append_getElem hlt
  have hsn := plVs_snoc (l.take k) l[k] n
  rw [← htk] at hsn
  have hlen := plVs_len (l.take k) n
  rw [List.length_take, Nat.min_eq_left hk] at hlen
  have hv := hx _ (List.getElem_mem hlt)
  generalize l[k] = x at *
  generalize hP : plVs (l.take k) n = P at *
  (repeat (first | refine aSeq fun X hX => ?_ | refine aSkip ?_ | (first | apply aReg | apply aIf); simp -implicitDefEqProofs only [↓slp, slb, ↓reduceIte, reduceCtorEq, jA, jB, jE, jF, tfAbPl1, f0, f1, f6, pI, c1, hAb, hg] | apply hX; clear hX X | intro hlen; unfold maxLen at hlen | apply And.intro; focus omega))
  refine callM (cnext_any a _ (by first | assumption | (rw [ext_nb]; omega)) _) ?_
  rintro v m' ⟨rfl, rfl⟩
  refine wS (And.intro tfAbPl1 (And.intro f6 hAb)) ?_
  (repeat revert X); refine wE (And.intro tfAbPl1 (And.intro f0 hAb)) ?_; repeat intro X hX
  refine callM (cexpr_any x.first hv a _ (by rw [ext_nb]; omega) _) ?_
  rintro v m' ⟨rfl, rfl⟩
  have hpl : plV x P.2 = (⟨x.name, x.t, x.clock, x.last, (plE x.first (nxt P.2)).1, nxt P.2, 1⟩, (plE x.first (nxt P.2)).2) := rfl
  generalize plE x.first (nxt P.2) = q at *
  have hfree := ho.free
  have q1 : P.1.length + 1 ≤ maxLen := by unfold maxLen; omega
  have q3 := va_len P.1
  refine wS (And.intro tfAbPl1 (And.intro f6 hAb)) ?_
  (repeat (first | refine aReg ?_; simp -implicitDefEqProofs only [forall_eq, ↓slp, slb, ↓reduceIte, jA, jB, jC, jE, jF, tfAbPl1, f5, f6, hAb, pI, hi] | apply hX; clear hX X | apply And.intro; focus ((repeat' apply And.intro) <;> first | omega | assumption)))
  rw [hI]
  exact ⟨⟨k + 1, .tok mb.nt, _, hlt, f0, f1, by rw [hsn, hpl, List.map_append]; rfl, rfl, by rw [hsn, hpl], (hB.fresh ho).ext _, (Mine.newB hB o 15).ext _⟩, by omega⟩
 | false =>
  have hk' : k = l.length := by simp at c1; omega
  subst hk'
  rw [List.take_length] at f5
  rw [List.take_length]
  (repeat revert X); refine wE (And.intro tfAbPl1 (And.intro f1 (And.intro f5 (And.intro f6 (And.intro @pI.eq_1 c1))))) ?_; repeat intro X hX
  refine wR Tryz.results14 ?_
  exact leave_cntB hA hB rfl ⟨rfl, rfl⟩

set_option linter.unusedVariables false
set_option linter.unusedSimpArgs false
open Nat renaming reduceEqDiff → jA, reduceAdd → jB, reduceMul → jC, reduceLT → jD, reduceLeDiff → jE, reduceBEq → jF, reduceBNe → jG
open Int renaming reduceLE → jH, reduceLT → jI, reduceToNat → jJ, reduceEq → jK
open Go
set_option maxRecDepth 20000
set_option linter.defProp false
theorem set_concat_length {α : Type} (l : List α) (a b : α) : (l ++ [a]).set l.length b = l ++ [b] := by
 rw [List.set_append_right _ _ (Nat.le_refl _)]; simp
theorem qu_len (l : List Qu) : ∀ x ∈ l.map Qu.pv, x.cells.length = 16 := fun x hx => by
 obtain ⟨a, _, rfl⟩ := List.mem_map.1 hx
 rw [Qu.cells_pv]; rfl
structure Qu.flat (q : Qu) : Prop where
 e : q.e.nar
 args : q.args.length ≤ 1000000000 ∧ Ex.nars q.args
 arms : q.arms = []

set_option linter.unusedVariables false
set_option linter.unusedSimpArgs false
open Nat renaming reduceEqDiff → jA, reduceAdd → jB, reduceMul → jC, reduceLT → jD, reduceLeDiff → jE, reduceBEq → jF, reduceBNe → jG
open Int renaming reduceLE → jH, reduceLT → jI, reduceToNat → jJ, reduceEq → jK
open Go
set_option maxRecDepth 20000
set_option linter.defProp false
theorem cnt_mk {m : M} {z y : Option (List PV)} {r : List (Option (List PV))} {a : Nat} {c : Int} (h : m.nb + 1 = a) : cnt a (m.ext (z :: y :: r)) c = m.ext (z :: some (cN c) :: r) := by
 subst h
 unfold cnt
 rw [ext_upd (i := 1) rfl]
 rfl
theorem cnt_lift {P : Program} {mm : M} {a : Nat} (h : mm.nb + 1 = a) {f : FuncId} {args : List PV} {z : Option (List PV)} {r : List (Option (List PV))} {c c' : Int} {v0 : PV}
    (hc : ACalls P f args (cnt a (mm.ext (z :: some (cN c) :: r)) c) (fun v m' => v = v0 ∧ m' = cnt a (mm.ext (z :: some (cN c) :: r)) c')) : ACalls P f args (mm.ext (z :: some (cN c) :: r)) (fun v m' => v = v0 ∧ m' = mm.ext (z :: some (cN c') :: r)) := by
 rw [cnt_mk h] at hc
 exact ACalls.mono hc fun v m' hh => ⟨hh.1, by rw [hh.2, cnt_mk h]⟩
theorem cnt_in {mm : M} {a : Nat} (h : mm.nb + 1 = a) {z y : Option (List PV)} {r : List (Option (List PV))} : a < (mm.ext (z :: y :: r)).nb := by
 rw [ext_nb]; simp only [List.length_cons]; omega
theorem no_len7 (l : List No) : ∀ x ∈ l.map No.pv, x.cells.length = 7 := fun x hx => by
 obtain ⟨a, _, rfl⟩ := List.mem_map.1 hx
 rfl
structure No.flat (n : No) : Prop where
 ins : n.ins.length ≤ 1000000000 ∧ ∀ v ∈ n.ins, v.first.nar
 outs : n.outs.length ≤ 1000000000 ∧ ∀ v ∈ n.outs, v.first.nar
 vars : n.b.vars.length ≤ 1000000000 ∧ ∀ v ∈ n.b.vars, v.first.nar
 eqs : n.b.eqs.length ≤ 1000000000 ∧ ∀ q ∈ n.b.eqs, q.flat
end Go.Proofs.YthhhnfjcaicjnaaGreatDoor
