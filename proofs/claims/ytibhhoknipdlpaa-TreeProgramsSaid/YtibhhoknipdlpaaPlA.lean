/-
 Texts that belong together: AbPl1, AbPl2, AbPl3.
-/
-- halved
import Derived.Test.YtibhhoknipdlpaaExA
import Derived.Test.YtibhhoknipdlpaaQA
import Derived.Test.YtibhhoknipdlpaaAbKit
/-
 Places for all parts: expressions, variables, ways out.
-/
set_option linter.unusedVariables false
set_option linter.unusedSimpArgs false
namespace Go.Proofs.Ytibhhoknipdlpaa
open Nat renaming reduceEqDiff → jA, reduceAdd → jB, reduceMul → jC, reduceLT → jD, reduceLeDiff → jE, reduceBEq → jF, reduceBNe → jG
open Int renaming reduceLE → jH, reduceLT → jI, reduceToNat → jJ, reduceEq → jK
open Go
-- EXX: Tr.settle_pv, Tr.pure_pv, Tr.cells_pv, Tr.cs, cnt_nb, cnt_nt, cnt_fresh, cnt_use, cnt_free, cnt_alive, cnt_a, cnt_upda, cnt_ext, cnt_ext2, cnt_ea, cnt_own, cnt_own0, cnt_ou, cnt_ou0
set_option maxRecDepth 20000
-- TNAMES: int; uint8; int32; string; bool; []string; []api.Expr; api.Expr; *metronomeref04.counter; metronomeref04.counter; api.Pos; api.Type; []api.On; api.Var; []api.Var; api.Trans; []api.Trans
set_option linter.defProp false
def Y0 := And.intro @slb (And.intro @tfA (And.intro @Ex.settle_pv (And.intro @Ex.pure_pv (And.intro @Ex.cells_pv (And.intro @Ex.cs.eq_1 (And.intro @On.pv.eq_1 (And.intro @Ty.pv.eq_1 (And.intro @Va.settle_pv (And.intro @Va.pure_pv (And.intro @Va.cells_pv (And.intro @Va.cs.eq_1 (And.intro @Tr.settle_pv (And.intro @Tr.pure_pv (And.intro @Tr.cells_pv (And.intro @Tr.cs.eq_1 (And.intro @cnt_nb (And.intro @cnt_nt (And.intro @cnt_fresh (And.intro @cnt_use (And.intro @cnt_free (And.intro @cnt_alive (And.intro @cnt_a (And.intro @cnt_upda (And.intro @cnt_ext (And.intro @cnt_ext2 (And.intro @cnt_ea (And.intro @cnt_own (And.intro @cnt_own0 (And.intro @cnt_ou @cnt_ou0)))))))))))))))))))))))))))))

def nxt (n : Int) : Int := IntKind.i64.wrap (n + 1)
mutual
def plE : Ex → Int → Ex × Int
 | .mk k o n nm ns ks _ _, c => (.mk k o n nm ns (plEs ks (nxt c)).1 (nxt c) 1, (plEs ks (nxt c)).2)
def plEs : List Ex → Int → List Ex × Int
 | [], c => ([], c)
 | e :: l, c => ((plE e c).1 :: (plEs l (plE e c).2).1, (plEs l (plE e c).2).2)
end
theorem plE_eq (e : Ex) (c : Int) : plE e c = (.mk e.kind e.op e.n e.name e.names (plEs e.kids (nxt c)).1 (nxt c) 1, (plEs e.kids (nxt c)).2) := by cases e; rw [plE]; rfl
theorem plEs_snoc (l : List Ex) (x : Ex) : ∀ c, plEs (l ++ [x]) c = ((plEs l c).1 ++ [(plE x (plEs l c).2).1], (plE x (plEs l c).2).2) := by
 induction l with
 | nil => intro c; simp [plEs]
 | cons a l ih => intro c; simp [plEs, ih]
theorem plEs_len (l : List Ex) : ∀ c, (plEs l c).1.length = l.length := by
 induction l with
 | nil => intro c; rfl
 | cons a l ih => intro c; simp [plEs, ih]

mutual
def Ex.nar : Ex → Prop
 | .mk _ _ _ _ _ ks _ _ => ks.length ≤ 100000000 ∧ Ex.nars ks
def Ex.nars : List Ex → Prop
 | [] => True
 | e :: l => e.nar ∧ Ex.nars l
end
theorem Ex.nars_mem : ∀ (l : List Ex), Ex.nars l → ∀ e ∈ l, e.nar
 | [], _, e, h => by cases h
 | a :: l, hg, e, h => by
  rcases List.mem_cons.1 h with rfl | h
  ·exact hg.1
  ·exact Ex.nars_mem l hg.2 e h
theorem Ex.nar_x {e : Ex} (h : e.nar) : e.kids.length ≤ 100000000 ∧ Ex.nars e.kids := by cases e; exact h
theorem ex_len (l : List Ex) : ∀ x ∈ l.map Ex.pv, x.cells.length = 8 := fun x hx => by
 obtain ⟨a, _, rfl⟩ := List.mem_map.1 hx
 rw [Ex.cells_pv]; rfl

set_option maxHeartbeats 1000000 in
theorem cnext_any (a : Nat) (m : M) (hA : a < m.nb) (n : Int) : ACalls Try.prog 81 [.bp a 0] (cnt a m n) (fun v m' => v = .ag [.v (.int .i64 (nxt n)), .v (.int .i64 1)] ∧ m' = cnt a m (nxt n)) := by
 refine ACalls.enter (mu := [2]) ok_mix Try.func81 rfl (by kernel_rfl) (by kernel_rfl) (by simp only [List.length_cons, List.length_nil, Try.ntmps81]; omega) ?_
 (repeat (first | refine aSeq fun X hX => ?_ | refine aRet ?_ | refine aReg ?_; simp -implicitDefEqProofs only [↓slp, ↓reduceIte, reduceCtorEq, jA, jB, jE, jF, Y0, hA] | apply hX; clear hX X))
 simp only [aPost, Try.results81, aRes_n, aRes_t, aRes_c, pack_one, pack_two]
 simp -implicitDefEqProofs only [↓reduceIte, jA, jB, jE, Y0, hA]
 exact leave_cnt hA (.refl m) rfl ⟨rfl, rfl⟩

def CEx (e : Ex) : Prop := e.nar → ∀ (a : Nat) (m : M), a < m.nb → ∀ n, ACalls Try.prog 105 [.bp a 0, e.pv] (cnt a m n) (fun v m' => v = (plE e n).1.pv ∧ m' = cnt a m (plE e n).2)
set_option maxHeartbeats 4000000 in
theorem cexpr_any (e : Ex) : CEx e := by
 refine Ex.ind (motive := CEx) (fun e IH => ?_) e
 intro hn a m hA n
 obtain ⟨hkl, hks⟩ := Ex.nar_x hn
 have he := plE_eq e n
 refine ACalls.enter (mu := [3, 4]) ok_mix Try.func105 rfl (by kernel_rfl) (by kernel_rfl) (by simp only [List.length_cons, List.length_nil, Try.ntmps105]; omega) ?_
 (repeat (first | refine aSeq fun X hX => ?_ | refine aReg ?_; simp -implicitDefEqProofs only [↓slp, ↓reduceIte, reduceCtorEq, jB, jF, Y0, hA]; try simp only [fo] | apply hX; clear hX X))
 refine callM (cnext_any a _ (by first | assumption | (rw [ext_nb]; omega)) n) ?_
 rintro v m' ⟨rfl, rfl⟩
 simp -implicitDefEqProofs only [↓slp, ↓reduceIte, reduceCtorEq, jA, jB, jE, jF, Y0, hA]
 (repeat (first | refine aSeq fun X hX => ?_ | refine aBlk ?_ | refine aReg ?_; simp -implicitDefEqProofs only [↓slp, jF, Y0] | apply hX; clear hX X))
 obtain ⟨I, hI⟩ : ∃ I : F → M → Prop, ∀ f m', I f m' = (∃ (k : Nat) (o : Own) (mm : M), k ≤ e.kids.length ∧ f 0 = .bp a 0 ∧ f 3 = .bp m.nb 0 ∧ f 4 = .bp (m.nb + 1) 0 ∧ f 5 = .sl o ((plEs (e.kids.take k) (nxt n)).1.map Ex.pv) ∧ f 6 = pI k ∧
  m' = cnt a (mm.ext [some [.v (.int .u8 e.kind), .v (.int .u8 e.op), .v (.int .i32 e.n), .v (.string e.name), .sl .no (e.names.map pS), .sl .no (e.kids.map Ex.pv), .v (.int .i64 (nxt n)), .v (.int .i64 1)], some [.v (.int .u8 0), .v (.int .u8 0), .v (.int .i32 0), .v (.string ⟨#[]⟩), .sl .full [], .sl .full [], .v (.int .i64 0), .v (.int .i64 0)]]) (plEs (e.kids.take k) (nxt n)).2 ∧ Toks m mm ∧ Mine m mm o 8) := ⟨_, fun _ _ => rfl⟩
 refine aLoop I (fun f m => e.kids.length - numOf (f 6)) ?_ ?_
 ·rw [hI]; exact ⟨0, .full, m, by omega, rfl, rfl, rfl, rfl, rfl, rfl, .refl m, .full⟩
 intro f m' hrel
 rw [hI] at hrel
 obtain ⟨k, o, mm, hk, f0, f3, f4, f5, f6, rfl, ht, ho⟩ := hrel
 have hnb := ht.nb
 have hAm : a < mm.nb := by omega
 rw [← hnb] at f3 f4
 cases c1 : decide ((k : Int) < (e.kids.length : Int)) with
 | true =>
  have hlt : k < e.kids.length := by simpa using c1
  have hg := getD_map Ex.pv e.kids k hlt
  have hi : IntKind.i64.wrap ((k : Int) + 1) = ((k + 1 : Nat) : Int) := by rw [wrap64 (by omega)]; omega
  have hme : numOf (f 6) = k := by rw [f6]; exact Int.toNat_natCast k
  have htk : e.kids.take (k + 1) = e.kids.take k ++ [e.kids[k]] := List.take_succ_eq_append_getElem hlt
  have hsn := plEs_snoc (e.kids.take k) e.kids[k] (nxt n)
  rw [← htk] at hsn
  have hlen := plEs_len (e.kids.take k) (nxt n)
  rw [List.length_take, Nat.min_eq_left hk] at hlen
  have ih := IH k hlt (Ex.nars_mem _ hks _ (List.getElem_mem hlt))
  generalize e.kids[k] = x at *
  generalize hP : plEs (e.kids.take k) (nxt n) = P at *
  (repeat (first | refine aSeq fun X hX => ?_ | refine aBlk ?_ | refine aSkip ?_ | (first | apply aReg | apply aIf); simp -implicitDefEqProofs only [↓slp, ↓reduceIte, reduceCtorEq, jA, jB, jD, jE, jF, Y0, f0, f3, f5, f6, pI, c1, hAm, hg]; try simp only [fo] | apply hX; clear hX X | intro hlen; unfold maxLen at hlen | apply And.intro; focus omega))
  refine callM (ih a _ (by rw [ext_nb]; omega) _) ?_
  rintro v m' ⟨rfl, rfl⟩
  generalize plE x P.2 = q at *
  have hfree := ho.free
  have q1 : P.1.length + 1 ≤ maxLen := by unfold maxLen; omega
  have q2 : (P.1.length + 1) * 88 ≤ 140737488355328 := by omega
  have q3 := ex_len P.1
  simp -implicitDefEqProofs only [↓slp, ↓reduceIte, jA, jB, jC, jE, jF, Y0, f6, pI]; try simp only [fo]
  refine ⟨⟨hfree, q3, q1, q2⟩, ?_⟩
  (repeat (first | refine aReg ?_; simp -implicitDefEqProofs only [↓slp, ↓reduceIte, jA, jF, Y0, f6, pI, hi]; try simp only [fo] | apply hX; clear hX X))
  rw [hI]
  exact ⟨⟨k + 1, .tok mm.nt, _, hlt, f0, by rw [← hnb]; exact f3, by rw [← hnb]; exact f4, by rw [hsn, List.map_append]; rfl, rfl, by rw [hsn], ht.use ho, Mine.new ht o 8⟩, by omega⟩
 | false =>
  have hk' : k = e.kids.length := by simp at c1; omega
  subst hk'
  rw [List.take_length] at f5
  rw [List.take_length]
  generalize plEs e.kids (nxt n) = P at *
  (repeat (first | refine aSeq fun X hX => ?_ | (first | refine aExit ?_ | refine aRet ?_); try simp only [slx, ↓reduceIte, jA, reduceCtorEq] | (first | apply aReg | apply aIf); simp -implicitDefEqProofs only [↓slp, ↓reduceIte, reduceCtorEq, jA, jB, jD, jE, jF, Y0, f3, f4, f5, f6, pI, c1, hAm] | apply hX; clear hX X | clear hX X; apply hX; clear hX X | intro hlen; unfold maxLen at hlen))
  simp only [aPost, Try.results105, aRes_n, aRes_t, aRes_c, pack_one, pack_two]
  simp -implicitDefEqProofs only [↓reduceIte, jA, jB, jE, Y0, f4, hAm]
  exact leave_cnt hA ht rfl ⟨by rw [he, Ex.pv_eq]; rfl, by rw [he]⟩
/-- Variables. -/
def plV (v : Va) (c : Int) : Va × Int := (⟨v.name, v.t, v.clock, v.last, (plE v.first (nxt c)).1, nxt c, 1⟩, (plE v.first (nxt c)).2)
def plVs : List Va → Int → List Va × Int
 | [], c => ([], c)
 | v :: l, c => ((plV v c).1 :: (plVs l (plV v c).2).1, (plVs l (plV v c).2).2)
theorem plVs_snoc (l : List Va) (x : Va) : ∀ c, plVs (l ++ [x]) c = ((plVs l c).1 ++ [(plV x (plVs l c).2).1], (plV x (plVs l c).2).2) := by
 induction l with
 | nil => intro c; simp [plVs]
 | cons a l ih => intro c; simp [plVs, ih]
theorem plVs_len (l : List Va) : ∀ c, (plVs l c).1.length = l.length := by
 induction l with
 | nil => intro c; rfl
 | cons a l ih => intro c; simp [plVs, ih]
theorem va_len (l : List Va) : ∀ x ∈ l.map Va.pv, x.cells.length = 15 := fun x hx => by
 obtain ⟨a, _, rfl⟩ := List.mem_map.1 hx
 rfl
set_option maxHeartbeats 4000000 in
theorem cvars_any (l : List Va) (hl : l.length ≤ 100000000) (hx : ∀ v ∈ l, v.first.nar) (a : Nat) (m : M) (hA : a < m.nb) (n : Int) : ACalls Try.prog 73 [.bp a 0, .sl .no (l.map Va.pv)] (cnt a m n) (fun v m' => v = .sl .no ((plVs l n).1.map Va.pv) ∧ m' = cnt a m (plVs l n).2) := by
 refine ACalls.enter (mu := [7]) ok_mix Try.func73 rfl (by kernel_rfl) (by kernel_rfl) (by simp only [List.length_cons, List.length_nil, Try.ntmps73]; omega) ?_
 (repeat (first | refine aSeq fun X hX => ?_ | refine aBlk ?_ | refine aReg ?_; simp -implicitDefEqProofs only [↓slp, jF, Y0] | apply hX; clear hX X))
 obtain ⟨I, hI⟩ : ∃ I : F → M → Prop, ∀ f m', I f m' = (∃ (k : Nat) (o : Own) (mb : M), k ≤ l.length ∧ f 0 = .bp a 0 ∧ f 1 = .sl .no (l.map Va.pv) ∧ f 5 = .sl o ((plVs (l.take k) n).1.map Va.pv) ∧ f 6 = pI k ∧ m' = cnt a mb (plVs (l.take k) n).2 ∧ BaseR m mb ∧ Mine m mb o 15) := ⟨_, fun _ _ => rfl⟩
 refine aLoop I (fun f m => l.length - numOf (f 6)) ?_ ?_
 ·rw [hI]; exact ⟨0, .full, m, by omega, rfl, rfl, rfl, rfl, rfl, .refl m, .full⟩
 intro f m' hrel
 rw [hI] at hrel
 obtain ⟨k, o, mb, hk, f0, f1, f5, f6, rfl, hB, ho⟩ := hrel
 have hAb : a < mb.nb := Nat.lt_of_lt_of_le hA hB.nb
 cases c1 : decide ((k : Int) < (l.length : Int)) with
 | true =>
  have hlt : k < l.length := by simpa using c1
  have hg := getD_map Va.pv l k hlt
  have hi : IntKind.i64.wrap ((k : Int) + 1) = ((k + 1 : Nat) : Int) := by rw [wrap64 (by omega)]; omega
  have hme : numOf (f 6) = k := by rw [f6]; exact Int.toNat_natCast k
  have htk : l.take (k + 1) = l.take k ++ [l[k]] := List.take_succ_eq_append_getElem hlt
  have hsn := plVs_snoc (l.take k) l[k] n
  rw [← htk] at hsn
  have hlen := plVs_len (l.take k) n
  rw [List.length_take, Nat.min_eq_left hk] at hlen
  have hv := hx _ (List.getElem_mem hlt)
  generalize l[k] = x at *
  generalize hP : plVs (l.take k) n = P at *
  (repeat (first | refine aSeq fun X hX => ?_ | refine aSkip ?_ | (first | apply aReg | apply aIf); simp -implicitDefEqProofs only [↓slp, ↓reduceIte, reduceCtorEq, jA, jB, jE, jF, Y0, f0, f1, f6, pI, c1, hAb, hg] | apply hX; clear hX X | intro hlen; unfold maxLen at hlen | apply And.intro; focus omega))
  refine callM (cnext_any a _ (by first | assumption | (rw [ext_nb]; omega)) _) ?_
  rintro v m' ⟨rfl, rfl⟩
  simp -implicitDefEqProofs only [↓slp, ↓reduceIte, reduceCtorEq, jA, jB, jE, jF, Y0, f6, hAb]
  (repeat (first | refine aSeq fun X hX => ?_ | refine aReg ?_; simp -implicitDefEqProofs only [↓slp, ↓reduceIte, reduceCtorEq, jA, jB, jE, jF, Y0, f0, hAb]; try simp only [fo] | apply hX; clear hX X))
  refine callM (cexpr_any x.first hv a _ (by rw [ext_nb]; omega) _) ?_
  rintro v m' ⟨rfl, rfl⟩
  have hpl : plV x P.2 = (⟨x.name, x.t, x.clock, x.last, (plE x.first (nxt P.2)).1, nxt P.2, 1⟩, (plE x.first (nxt P.2)).2) := rfl
  generalize plE x.first (nxt P.2) = q at *
  have hfree := ho.free
  have q1 : P.1.length + 1 ≤ maxLen := by unfold maxLen; omega
  have q3 := va_len P.1
  simp -implicitDefEqProofs only [↓slp, ↓reduceIte, reduceCtorEq, jA, jB, jE, jF, Y0, f6, hAb]; try simp only [fo]
  (repeat (first | refine aReg ?_; simp -implicitDefEqProofs only [forall_eq, ↓slp, ↓reduceIte, jA, jB, jC, jE, jF, Y0, f5, f6, hAb, pI, hi] | apply hX; clear hX X | apply And.intro; focus ((repeat' apply And.intro) <;> first | omega | assumption)))
  rw [hI]
  exact ⟨⟨k + 1, .tok mb.nt, _, hlt, f0, f1, by rw [hsn, hpl, List.map_append]; rfl, rfl, by rw [hsn, hpl], (hB.fresh ho).ext _, (Mine.newB hB o 15).ext _⟩, by omega⟩
 | false =>
  have hk' : k = l.length := by simp at c1; omega
  subst hk'
  rw [List.take_length] at f5
  rw [List.take_length]
  (repeat (first | refine aSeq fun X hX => ?_ | (first | refine aExit ?_ | refine aRet ?_); try simp only [slx, ↓reduceIte, jA, reduceCtorEq] | (first | apply aReg | apply aIf); simp -implicitDefEqProofs only [↓slp, ↓reduceIte, jA, jF, Y0, f1, f5, f6, pI, c1] | apply hX; clear hX X | clear hX X; apply hX; clear hX X | intro hlen; unfold maxLen at hlen))
  simp only [aPost, Try.results73, aRes_n, aRes_t, aRes_c, pack_one, pack_two]
  exact leave_cntB hA hB rfl ⟨rfl, rfl⟩
end Go.Proofs.Ytibhhoknipdlpaa

/-
 Places for all parts: a block without blocks in it, a program.
-/
set_option linter.unusedVariables false
set_option linter.unusedSimpArgs false
namespace Go.Proofs.Ytibhhoknipdlpaa
open Nat renaming reduceEqDiff → jA, reduceAdd → jB, reduceMul → jC, reduceLT → jD, reduceLeDiff → jE, reduceBEq → jF, reduceBNe → jG
open Int renaming reduceLE → jH, reduceLT → jI, reduceToNat → jJ, reduceEq → jK
open Go
-- EXX: Qu.settle_pv, Qu.pure_pv, Qu.cells_pv, Qu.cs, cnt_nb, cnt_nt, cnt_fresh, cnt_use, cnt_free, cnt_alive, cnt_a, cnt_upda, cnt_ext, cnt_ext2, cnt_ea, cnt_own, cnt_own0, cnt_ou, cnt_ou0
set_option maxRecDepth 20000
-- TNAMES: int; uint8; int32; string; bool; []string; []api.Expr; api.Expr; *metronomeref04.counter; metronomeref04.counter; api.Pos; api.Type; []api.On; api.Var; []api.Var; api.Equation; []api.Equation; api.Arm; []api.Arm; api.Block; api.Node; []api.Node; api.Enum; []api.Enum; api.Program
set_option linter.defProp false
theorem set_concat_length {α : Type} (l : List α) (a b : α) : (l ++ [a]).set l.length b = l ++ [b] := by
 rw [List.set_append_right _ _ (Nat.le_refl _)]; simp
theorem qu_len (l : List Qu) : ∀ x ∈ l.map Qu.pv, x.cells.length = 16 := fun x hx => by
 obtain ⟨a, _, rfl⟩ := List.mem_map.1 hx
 rw [Qu.cells_pv]; rfl
structure Qu.flat (q : Qu) : Prop where
 e : q.e.nar
 args : q.args.length ≤ 100000000 ∧ Ex.nars q.args
 arms : q.arms = []
end Go.Proofs.Ytibhhoknipdlpaa

/-
 Places for all parts: a program without types whose nodes are flat.
-/
set_option linter.unusedVariables false
set_option linter.unusedSimpArgs false
namespace Go.Proofs.Ytibhhoknipdlpaa
open Nat renaming reduceEqDiff → jA, reduceAdd → jB, reduceMul → jC, reduceLT → jD, reduceLeDiff → jE, reduceBEq → jF, reduceBNe → jG
open Int renaming reduceLE → jH, reduceLT → jI, reduceToNat → jJ, reduceEq → jK
open Go
-- EXX: No.settle_pv, No.pure_pv, No.cells_pv, No.cs, Qu.settle_pv
set_option maxRecDepth 20000
-- TNAMES: int; uint8; int32; string; bool; []string; []api.Expr; api.Expr; *metronomeref04.counter; metronomeref04.counter; api.Pos; api.Type; []api.On; api.Var; []api.Var; api.Equation; []api.Equation; api.Block; api.Node; []api.Node; api.Enum; []api.Enum; api.Program
set_option linter.defProp false
theorem cnt_mk {m : M} {z y : Option (List PV)} {r : List (Option (List PV))} {a : Nat} {c : Int} (h : m.nb + 1 = a) : cnt a (m.ext (z :: y :: r)) c = m.ext (z :: some (cN c) :: r) := by
 subst h
 unfold cnt
 rw [ext_upd (i := 1) rfl]
 rfl
theorem cnt_lift {P : Program} {mm : M} {a : Nat} (h : mm.nb + 1 = a) {f : FuncId} {args : List PV} {z : Option (List PV)} {r : List (Option (List PV))} {c c' : Int} {v0 : PV}
    (hc : ACalls P f args (cnt a (mm.ext (z :: some (cN c) :: r)) c) (fun v m' => v = v0 ∧ m' = cnt a (mm.ext (z :: some (cN c) :: r)) c')) : ACalls P f args (mm.ext (z :: some (cN c) :: r)) (fun v m' => v = v0 ∧ m' = mm.ext (z :: some (cN c') :: r)) := by
 rw [cnt_mk h] at hc
 exact ACalls.mono hc fun v m' hh => ⟨hh.1, by rw [hh.2, cnt_mk h]⟩
theorem cnt_in {mm : M} {a : Nat} (h : mm.nb + 1 = a) {z y : Option (List PV)} {r : List (Option (List PV))} : a < (mm.ext (z :: y :: r)).nb := by
 rw [ext_nb]; simp only [List.length_cons]; omega
theorem no_len7 (l : List No) : ∀ x ∈ l.map No.pv, x.cells.length = 7 := fun x hx => by
 obtain ⟨a, _, rfl⟩ := List.mem_map.1 hx
 rfl
structure No.flat (n : No) : Prop where
 ins : n.ins.length ≤ 100000000 ∧ ∀ v ∈ n.ins, v.first.nar
 outs : n.outs.length ≤ 100000000 ∧ ∀ v ∈ n.outs, v.first.nar
 vars : n.b.vars.length ≤ 100000000 ∧ ∀ v ∈ n.b.vars, v.first.nar
 eqs : n.b.eqs.length ≤ 100000000 ∧ ∀ q ∈ n.b.eqs, q.flat
end Go.Proofs.Ytibhhoknipdlpaa
