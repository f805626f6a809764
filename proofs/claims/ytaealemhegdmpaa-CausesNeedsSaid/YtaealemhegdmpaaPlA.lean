/-
 Texts that belong together: AbPl1, AbPl2, AbPl3.
-/
-- halved
import Derived.Test.YtaealemhegdmpaaExA
import Derived.Test.YtaealemhegdmpaaAbCnt
import Derived.Test.YtaealemhegdmpaaAbKit
/-
 Places for all parts: expressions, variables, ways out.
-/
set_option linter.unusedVariables false
set_option linter.unusedSimpArgs false
namespace Go.Proofs.Ytaealemhegdmpaa
open Nat renaming reduceEqDiff → jA, reduceAdd → jB, reduceMul → jC, reduceLT → jD, reduceLeDiff → jE, reduceBEq → jF, reduceBNe → jG
open Int renaming reduceLE → jH, reduceLT → jI, reduceToNat → jJ, reduceEq → jK
open Go
-- EXX: Tr.settle_pv, Tr.pure_pv, Tr.cells_pv, Tr.cs, cnt_nb, cnt_nt, cnt_fresh, cnt_use, cnt_free, cnt_alive, cnt_a, cnt_upda, cnt_ext, cnt_ext2, cnt_ea, cnt_own, cnt_own0, cnt_ou, cnt_ou0
set_option maxRecDepth 20000
-- TNAMES: int; uint8; int32; string; bool; []string; []api.Expr; api.Expr; *metronomeref04.counter; metronomeref04.counter; api.Pos; api.Type; []api.On; api.Var; []api.Var; api.Trans; []api.Trans
set_option linter.defProp false
def Ye := And.intro @slb (And.intro @tfA (And.intro @Ex.settle_pv (And.intro @Ex.pure_pv (And.intro @Ex.cells_pv (And.intro @Ex.cs.eq_1 (And.intro @On.pv.eq_1 (And.intro @Ty.pv.eq_1 (And.intro @Va.settle_pv (And.intro @Va.pure_pv (And.intro @Va.cells_pv (And.intro @Va.cs.eq_1 (And.intro @Tr.settle_pv (And.intro @Tr.pure_pv (And.intro @Tr.cells_pv (And.intro @Tr.cs.eq_1 (And.intro @cnt_nb (And.intro @cnt_nt (And.intro @cnt_fresh (And.intro @cnt_use (And.intro @cnt_free (And.intro @cnt_alive (And.intro @cnt_a (And.intro @cnt_upda (And.intro @cnt_ext (And.intro @cnt_ext2 (And.intro @cnt_ea (And.intro @cnt_own (And.intro @cnt_own0 (And.intro @cnt_ou @cnt_ou0)))))))))))))))))))))))))))))

def nxt (n : Int) : Int := IntKind.i64.wrap (n + 1)
mutual
def plE : Ex → Int → Ex × Int
 | .mk k o n nm ns ks _ _, c => (.mk k o n nm ns (plEs ks (nxt c)).1 (nxt c) 1, (plEs ks (nxt c)).2)
def plEs : List Ex → Int → List Ex × Int
 | [], c => ([], c)
 | e :: l, c => ((plE e c).1 :: (plEs l (plE e c).2).1, (plEs l (plE e c).2).2)
end
theorem plE_eq (e : Ex) (c : Int) : plE e c = (.mk e.kind e.op e.n e.name e.names (plEs e.kids (nxt c)).1 (nxt c) 1, (plEs e.kids (nxt c)).2) := by cases e; rw [plE]; rfl
theorem plEs_snoc (l : List Ex) (x : Ex) : ∀ c, plEs (l ++ [x]) c = ((plEs l c).1 ++ [(plE x (plEs l c).2).1], (plE x (plEs l c).2).2) := by
 induction l with
 | nil => intro c; simp [plEs]
 | cons a l ih => intro c; simp [plEs, ih]
theorem plEs_len (l : List Ex) : ∀ c, (plEs l c).1.length = l.length := by
 induction l with
 | nil => intro c; rfl
 | cons a l ih => intro c; simp [plEs, ih]

mutual
def Ex.nar : Ex → Prop
 | .mk _ _ _ _ _ ks _ _ => ks.length ≤ 1000000 ∧ Ex.nars ks
def Ex.nars : List Ex → Prop
 | [] => True
 | e :: l => e.nar ∧ Ex.nars l
end
theorem Ex.nars_mem : ∀ (l : List Ex), Ex.nars l → ∀ e ∈ l, e.nar
 | [], _, e, h => by cases h
 | a :: l, hg, e, h => by
  rcases List.mem_cons.1 h with rfl | h
  ·exact hg.1
  ·exact Ex.nars_mem l hg.2 e h
theorem Ex.nar_x {e : Ex} (h : e.nar) : e.kids.length ≤ 1000000 ∧ Ex.nars e.kids := by cases e; exact h
theorem ex_len (l : List Ex) : ∀ x ∈ l.map Ex.pv, x.cells.length = 8 := fun x hx => by
 obtain ⟨a, _, rfl⟩ := List.mem_map.1 hx
 rw [Ex.cells_pv]; rfl

set_option maxHeartbeats 1000000 in
theorem cnext_any (a : Nat) (m : M) (hA : a < m.nb) (n : Int) : ACalls Try.prog 36 [.bp a 0] (cnt a m n) (fun v m' => v = .ag [.v (.int .i64 (nxt n)), .v (.int .i64 1)] ∧ m' = cnt a m (nxt n)) := by
 refine ACalls.enter (mu := [2]) ok_mix Try.func36 rfl (by kernel_rfl) (by kernel_rfl) (by simp only [List.length_cons, List.length_nil, Try.ntmps36]; omega) ?_
 (repeat (first | refine aSeq fun X hX => ?_ | refine aRet ?_ | refine aReg ?_; simp -implicitDefEqProofs only [↓slp, ↓reduceIte, reduceCtorEq, jA, jB, jE, jF, Ye, hA] | apply hX; clear hX X))
 simp only [aPost, Try.results36, aRes_n, aRes_t, aRes_c, pack_one, pack_two]
 simp -implicitDefEqProofs only [↓reduceIte, jA, jB, jE, Ye, hA]
 exact leave_cnt hA (.refl m) rfl ⟨rfl, rfl⟩

def CEx (e : Ex) : Prop := e.nar → ∀ (a : Nat) (m : M), a < m.nb → ∀ n, ACalls Try.prog 54 [.bp a 0, e.pv] (cnt a m n) (fun v m' => v = (plE e n).1.pv ∧ m' = cnt a m (plE e n).2)
set_option maxHeartbeats 4000000 in
theorem cexpr_any (e : Ex) : CEx e := by
 refine Ex.ind (motive := CEx) (fun e IH => ?_) e
 intro hn a m hA n
 obtain ⟨hkl, hks⟩ := Ex.nar_x hn
 have he := plE_eq e n
 refine ACalls.enter (mu := [3, 4]) ok_mix Try.func54 rfl (by kernel_rfl) (by kernel_rfl) (by simp only [List.length_cons, List.length_nil, Try.ntmps54]; omega) ?_
 (repeat (first | refine aSeq fun X hX => ?_ | refine aReg ?_; simp -implicitDefEqProofs only [↓slp, ↓reduceIte, reduceCtorEq, jB, jF, Ye, hA]; try simp only [fo] | apply hX; clear hX X))
 refine callM (cnext_any a _ (by first | assumption | (rw [ext_nb]; omega)) n) ?_
 rintro v m' ⟨rfl, rfl⟩
 simp -implicitDefEqProofs only [↓slp, ↓reduceIte, reduceCtorEq, jA, jB, jE, jF, Ye, hA]
 (repeat (first | refine aSeq fun X hX => ?_ | refine aBlk ?_ | refine aReg ?_; simp -implicitDefEqProofs only [↓slp, jF, Ye] | apply hX; clear hX X))
 obtain ⟨I, hI⟩ : ∃ I : F → M → Prop, ∀ f m', I f m' = (∃ (k : Nat) (o : Own) (mm : M), k ≤ e.kids.length ∧ f 0 = .bp a 0 ∧ f 3 = .bp m.nb 0 ∧ f 4 = .bp (m.nb + 1) 0 ∧ f 5 = .sl o ((plEs (e.kids.take k) (nxt n)).1.map Ex.pv) ∧ f 6 = pI k ∧
  m' = cnt a (mm.ext [some [.v (.int .u8 e.kind), .v (.int .u8 e.op), .v (.int .i32 e.n), .v (.string e.name), .sl .no (e.names.map pS), .sl .no (e.kids.map Ex.pv), .v (.int .i64 (nxt n)), .v (.int .i64 1)], some [.v (.int .u8 0), .v (.int .u8 0), .v (.int .i32 0), .v (.string ⟨#[]⟩), .sl .full [], .sl .full [], .v (.int .i64 0), .v (.int .i64 0)]]) (plEs (e.kids.take k) (nxt n)).2 ∧ Toks m mm ∧ Mine m mm o 8) := ⟨_, fun _ _ => rfl⟩
 refine aLoop I (fun f m => e.kids.length - numOf (f 6)) ?_ ?_
 ·rw [hI]; exact ⟨0, .full, m, by omega, rfl, rfl, rfl, rfl, rfl, rfl, .refl m, .full⟩
 intro f m' hrel
 rw [hI] at hrel
 obtain ⟨k, o, mm, hk, f0, f3, f4, f5, f6, rfl, ht, ho⟩ := hrel
 have hnb := ht.nb
 have hAm : a < mm.nb := by omega
 rw [← hnb] at f3 f4
 cases c1 : decide ((k : Int) < (e.kids.length : Int)) with
 | true =>
  have hlt : k < e.kids.length := by simpa using c1
  have hg := getD_map Ex.pv e.kids k hlt
  have hi : IntKind.i64.wrap ((k : Int) + 1) = ((k + 1 : Nat) : Int) := by rw [wrap64 (by omega)]; omega
  have hme : numOf (f 6) = k := by rw [f6]; exact Int.toNat_natCast k
  have htk : e.kids.take (k + 1) = e.kids.take k ++ [e.kids[k]] := List.take_succ_eq_append_getElem hlt
  have hsn := plEs_snoc (e.kids.take k) e.kids[k] (nxt n)
  rw [← htk] at hsn
  have hlen := plEs_len (e.kids.take k) (nxt n)
  rw [List.length_take, Nat.min_eq_left hk] at hlen
  have ih := IH k hlt (Ex.nars_mem _ hks _ (List.getElem_mem hlt))
  generalize e.kids[k] = x at *
  generalize hP : plEs (e.kids.take k) (nxt n) = P at *
  (repeat (first | refine aSeq fun X hX => ?_ | refine aBlk ?_ | refine aSkip ?_ | (first | apply aReg | apply aIf); simp -implicitDefEqProofs only [↓slp, ↓reduceIte, reduceCtorEq, jA, jB, jD, jE, jF, Ye, f0, f3, f5, f6, pI, c1, hAm, hg]; try simp only [fo] | apply hX; clear hX X | intro hlen; unfold maxLen at hlen | apply And.intro; focus omega))
  refine callM (ih a _ (by rw [ext_nb]; omega) _) ?_
  rintro v m' ⟨rfl, rfl⟩
  generalize plE x P.2 = q at *
  have hfree := ho.free
  have q1 : P.1.length + 1 ≤ maxLen := by unfold maxLen; omega
  have q2 : (P.1.length + 1) * 88 ≤ 140737488355328 := by omega
  have q3 := ex_len P.1
  simp -implicitDefEqProofs only [↓slp, ↓reduceIte, jA, jB, jC, jE, jF, Ye, f6, pI]; try simp only [fo]
  refine ⟨⟨hfree, q3, q1, q2⟩, ?_⟩
  (repeat (first | refine aReg ?_; simp -implicitDefEqProofs only [↓slp, ↓reduceIte, jA, jF, Ye, f6, pI, hi]; try simp only [fo] | apply hX; clear hX X))
  rw [hI]
  exact ⟨⟨k + 1, .tok mm.nt, _, hlt, f0, by rw [← hnb]; exact f3, by rw [← hnb]; exact f4, by rw [hsn, List.map_append]; rfl, rfl, by rw [hsn], ht.use ho, Mine.new ht o 8⟩, by omega⟩
 | false =>
  have hk' : k = e.kids.length := by simp at c1; omega
  subst hk'
  rw [List.take_length] at f5
  rw [List.take_length]
  generalize plEs e.kids (nxt n) = P at *
  (repeat (first | refine aSeq fun X hX => ?_ | (first | refine aExit ?_ | refine aRet ?_); try simp only [slx, ↓reduceIte, jA, reduceCtorEq] | (first | apply aReg | apply aIf); simp -implicitDefEqProofs only [↓slp, ↓reduceIte, reduceCtorEq, jA, jB, jD, jE, jF, Ye, f3, f4, f5, f6, pI, c1, hAm] | apply hX; clear hX X | clear hX X; apply hX; clear hX X | intro hlen; unfold maxLen at hlen))
  simp only [aPost, Try.results54, aRes_n, aRes_t, aRes_c, pack_one, pack_two]
  simp -implicitDefEqProofs only [↓reduceIte, jA, jB, jE, Ye, f4, hAm]
  exact leave_cnt hA ht rfl ⟨by rw [he, Ex.pv_eq]; rfl, by rw [he]⟩
/-- Variables. -/
def plV (v : Va) (c : Int) : Va × Int := (⟨v.name, v.t, v.clock, v.last, (plE v.first (nxt c)).1, nxt c, 1⟩, (plE v.first (nxt c)).2)
def plVs : List Va → Int → List Va × Int
 | [], c => ([], c)
 | v :: l, c => ((plV v c).1 :: (plVs l (plV v c).2).1, (plVs l (plV v c).2).2)
theorem plVs_snoc (l : List Va) (x : Va) : ∀ c, plVs (l ++ [x]) c = ((plVs l c).1 ++ [(plV x (plVs l c).2).1], (plV x (plVs l c).2).2) := by
 induction l with
 | nil => intro c; simp [plVs]
 | cons a l ih => intro c; simp [plVs, ih]
theorem plVs_len (l : List Va) : ∀ c, (plVs l c).1.length = l.length := by
 induction l with
 | nil => intro c; rfl
 | cons a l ih => intro c; simp [plVs, ih]
theorem va_len (l : List Va) : ∀ x ∈ l.map Va.pv, x.cells.length = 15 := fun x hx => by
 obtain ⟨a, _, rfl⟩ := List.mem_map.1 hx
 rfl
set_option maxHeartbeats 4000000 in
theorem cvars_any (l : List Va) (hl : l.length ≤ 1000000) (hx : ∀ v ∈ l, v.first.nar) (a : Nat) (m : M) (hA : a < m.nb) (n : Int) : ACalls Try.prog 37 [.bp a 0, .sl .no (l.map Va.pv)] (cnt a m n) (fun v m' => v = .sl .no ((plVs l n).1.map Va.pv) ∧ m' = cnt a m (plVs l n).2) := by
 refine ACalls.enter (mu := [7]) ok_mix Try.func37 rfl (by kernel_rfl) (by kernel_rfl) (by simp only [List.length_cons, List.length_nil, Try.ntmps37]; omega) ?_
 (repeat (first | refine aSeq fun X hX => ?_ | refine aBlk ?_ | refine aReg ?_; simp -implicitDefEqProofs only [↓slp, jF, Ye] | apply hX; clear hX X))
 obtain ⟨I, hI⟩ : ∃ I : F → M → Prop, ∀ f m', I f m' = (∃ (k : Nat) (o : Own) (mb : M), k ≤ l.length ∧ f 0 = .bp a 0 ∧ f 1 = .sl .no (l.map Va.pv) ∧ f 5 = .sl o ((plVs (l.take k) n).1.map Va.pv) ∧ f 6 = pI k ∧ m' = cnt a mb (plVs (l.take k) n).2 ∧ BaseR m mb ∧ Mine m mb o 15) := ⟨_, fun _ _ => rfl⟩
 refine aLoop I (fun f m => l.length - numOf (f 6)) ?_ ?_
 ·rw [hI]; exact ⟨0, .full, m, by omega, rfl, rfl, rfl, rfl, rfl, .refl m, .full⟩
 intro f m' hrel
 rw [hI] at hrel
 obtain ⟨k, o, mb, hk, f0, f1, f5, f6, rfl, hB, ho⟩ := hrel
 have hAb : a < mb.nb := Nat.lt_of_lt_of_le hA hB.nb
 cases c1 : decide ((k : Int) < (l.length : Int)) with
 | true =>
  have hlt : k < l.length := by simpa using c1
  have hg := getD_map Va.pv l k hlt
  have hi : IntKind.i64.wrap ((k : Int) + 1) = ((k + 1 : Nat) : Int) := by rw [wrap64 (by omega)]; omega
  have hme : numOf (f 6) = k := by rw [f6]; exact Int.toNat_natCast k
  have htk : l.take (k + 1) = l.take k ++ [l[k]] := List.take_succ_eq_append_getElem hlt
  have hsn := plVs_snoc (l.take k) l[k] n
  rw [← htk] at hsn
  have hlen := plVs_len (l.take k) n
  rw [List.length_take, Nat.min_eq_left hk] at hlen
  have hv := hx _ (List.getElem_mem hlt)
  generalize l[k] = x at *
  generalize hP : plVs (l.take k) n = P at *
  (repeat (first | refine aSeq fun X hX => ?_ | refine aSkip ?_ | (first | apply aReg | apply aIf); simp -implicitDefEqProofs only [↓slp, ↓reduceIte, reduceCtorEq, jA, jB, jE, jF, Ye, f0, f1, f6, pI, c1, hAb, hg] | apply hX; clear hX X | intro hlen; unfold maxLen at hlen | apply And.intro; focus omega))
  refine callM (cnext_any a _ (by first | assumption | (rw [ext_nb]; omega)) _) ?_
  rintro v m' ⟨rfl, rfl⟩
  simp -implicitDefEqProofs only [↓slp, ↓reduceIte, reduceCtorEq, jA, jB, jE, jF, Ye, f6, hAb]
  (repeat (first | refine aSeq fun X hX => ?_ | refine aReg ?_; simp -implicitDefEqProofs only [↓slp, ↓reduceIte, reduceCtorEq, jA, jB, jE, jF, Ye, f0, hAb]; try simp only [fo] | apply hX; clear hX X))
  refine callM (cexpr_any x.first hv a _ (by rw [ext_nb]; omega) _) ?_
  rintro v m' ⟨rfl, rfl⟩
  have hpl : plV x P.2 = (⟨x.name, x.t, x.clock, x.last, (plE x.first (nxt P.2)).1, nxt P.2, 1⟩, (plE x.first (nxt P.2)).2) := rfl
  generalize plE x.first (nxt P.2) = q at *
  have hfree := ho.free
  have q1 : P.1.length + 1 ≤ maxLen := by unfold maxLen; omega
  have q3 := va_len P.1
  simp -implicitDefEqProofs only [↓slp, ↓reduceIte, reduceCtorEq, jA, jB, jE, jF, Ye, f6, hAb]; try simp only [fo]
  (repeat (first | refine aReg ?_; simp -implicitDefEqProofs only [forall_eq, ↓slp, ↓reduceIte, jA, jB, jC, jE, jF, Ye, f5, f6, hAb, pI, hi] | apply hX; clear hX X | apply And.intro; focus ((repeat' apply And.intro) <;> first | omega | assumption)))
  rw [hI]
  exact ⟨⟨k + 1, .tok mb.nt, _, hlt, f0, f1, by rw [hsn, hpl, List.map_append]; rfl, rfl, by rw [hsn, hpl], (hB.fresh ho).ext _, (Mine.newB hB o 15).ext _⟩, by omega⟩
 | false =>
  have hk' : k = l.length := by simp at c1; omega
  subst hk'
  rw [List.take_length] at f5
  rw [List.take_length]
  (repeat (first | refine aSeq fun X hX => ?_ | (first | refine aExit ?_ | refine aRet ?_); try simp only [slx, ↓reduceIte, jA, reduceCtorEq] | (first | apply aReg | apply aIf); simp -implicitDefEqProofs only [↓slp, ↓reduceIte, jA, jF, Ye, f1, f5, f6, pI, c1] | apply hX; clear hX X | clear hX X; apply hX; clear hX X | intro hlen; unfold maxLen at hlen))
  simp only [aPost, Try.results37, aRes_n, aRes_t, aRes_c, pack_one, pack_two]
  exact leave_cntB hA hB rfl ⟨rfl, rfl⟩
end Go.Proofs.Ytaealemhegdmpaa

/-
 Places for all parts: a block without blocks in it, a program.
-/
set_option linter.unusedVariables false
set_option linter.unusedSimpArgs false
namespace Go.Proofs.Ytaealemhegdmpaa
open Nat renaming reduceEqDiff → jA, reduceAdd → jB, reduceMul → jC, reduceLT → jD, reduceLeDiff → jE, reduceBEq → jF, reduceBNe → jG
open Int renaming reduceLE → jH, reduceLT → jI, reduceToNat → jJ, reduceEq → jK
open Go
-- EXX: Qu.settle_pv, Qu.pure_pv, Qu.cells_pv, Qu.cs, cnt_nb, cnt_nt, cnt_fresh, cnt_use, cnt_free, cnt_alive, cnt_a, cnt_upda, cnt_ext, cnt_ext2, cnt_ea, cnt_own, cnt_own0, cnt_ou, cnt_ou0
set_option maxRecDepth 20000
-- TNAMES: int; uint8; int32; string; bool; []string; []api.Expr; api.Expr; *metronomeref04.counter; metronomeref04.counter; api.Pos; api.Type; []api.On; api.Var; []api.Var; api.Equation; []api.Equation; api.Arm; []api.Arm; api.Block; api.Node; []api.Node; api.Enum; []api.Enum; api.Program
set_option linter.defProp false
def Yf := And.intro @slb (And.intro @tfA (And.intro @Ex.settle_pv (And.intro @Ex.pure_pv (And.intro @Ex.cells_pv (And.intro @Ex.cs.eq_1 (And.intro @On.pv.eq_1 (And.intro @Ty.pv.eq_1 (And.intro @Va.settle_pv (And.intro @Va.pure_pv (And.intro @Va.cells_pv (And.intro @Va.cs.eq_1 (And.intro @Qu.settle_pv (And.intro @Qu.pure_pv (And.intro @Qu.cells_pv (And.intro @Qu.cs.eq_1 (And.intro @cnt_nb (And.intro @cnt_nt (And.intro @cnt_fresh (And.intro @cnt_use (And.intro @cnt_free (And.intro @cnt_alive (And.intro @cnt_a (And.intro @cnt_upda (And.intro @cnt_ext (And.intro @cnt_ext2 (And.intro @cnt_ea (And.intro @cnt_own (And.intro @cnt_own0 (And.intro @cnt_ou @cnt_ou0)))))))))))))))))))))))))))))

theorem set_concat_length {α : Type} (l : List α) (a b : α) : (l ++ [a]).set l.length b = l ++ [b] := by
 rw [List.set_append_right _ _ (Nat.le_refl _)]; simp
/-- Equations without arms. -/
def plQ (q : Qu) (c : Int) : Qu × Int :=
 (.mk q.kind q.lhs q.name (plEs q.args (plE q.e (nxt c)).2).1 q.has (plE q.e (nxt c)).1 [] (nxt c) 1, (plEs q.args (plE q.e (nxt c)).2).2)
def plQs : List Qu → Int → List Qu × Int
 | [], c => ([], c)
 | v :: l, c => ((plQ v c).1 :: (plQs l (plQ v c).2).1, (plQs l (plQ v c).2).2)
theorem plQs_snoc (l : List Qu) (x : Qu) : ∀ c, plQs (l ++ [x]) c = ((plQs l c).1 ++ [(plQ x (plQs l c).2).1], (plQ x (plQs l c).2).2) := by
 induction l with
 | nil => intro c; simp [plQs]
 | cons a l ih => intro c; simp [plQs, ih]
theorem plQs_len (l : List Qu) : ∀ c, (plQs l c).1.length = l.length := by
 induction l with
 | nil => intro c; rfl
 | cons a l ih => intro c; simp [plQs, ih]
theorem qu_len (l : List Qu) : ∀ x ∈ l.map Qu.pv, x.cells.length = 16 := fun x hx => by
 obtain ⟨a, _, rfl⟩ := List.mem_map.1 hx
 rw [Qu.cells_pv]; rfl
structure Qu.flat (q : Qu) : Prop where
 e : q.e.nar
 args : q.args.length ≤ 1000000 ∧ Ex.nars q.args
 arms : q.arms = []
set_option maxHeartbeats 8000000 in
theorem cblock_any (vs : List Va) (l : List Qu) (hvl : vs.length ≤ 1000000) (hvx : ∀ v ∈ vs, v.first.nar) (hl : l.length ≤ 1000000) (hx : ∀ q ∈ l, q.flat) (a : Nat) (m : M) (hA : a < m.nb) (n : Int) :
    ACalls Try.prog 38 [.bp a 0, .ag [.sl .no (vs.map Va.pv), .sl .no (l.map Qu.pv)]] (cnt a m n) (fun v m' => v = .ag [.sl .no ((plVs vs n).1.map Va.pv), .sl .no ((plQs l (plVs vs n).2).1.map Qu.pv)] ∧ m' = cnt a m (plQs l (plVs vs n).2).2) := by
 refine ACalls.enter (mu := [4, 5, 7, 12]) ok_mix Try.func38 rfl (by kernel_rfl) (by kernel_rfl) (by simp only [List.length_cons, List.length_nil, Try.ntmps38]; omega) ?_
 (repeat (first | refine aSeq fun X hX => ?_ | refine aReg ?_; simp -implicitDefEqProofs only [↓slp, ↓reduceIte, reduceCtorEq, jA, jB, jE, jF, Yf, hA] | apply hX; clear hX X))
 refine callM (cvars_any vs hvl hvx a _ (by first | assumption | (rw [ext_nb]; omega)) n) ?_
 rintro v m' ⟨rfl, rfl⟩
 generalize plVs vs n = V at *
 simp -implicitDefEqProofs only [↓slp, ↓reduceIte, jA, jB, jE, jF, Yf, hA]
 (repeat (first | refine aSeq fun X hX => ?_ | refine aBlk ?_ | refine aReg ?_; simp -implicitDefEqProofs only [↓slp, slb, jF] | apply hX; clear hX X))
 obtain ⟨I, hI⟩ : ∃ I : F → M → Prop, ∀ f m', I f m' = (∃ (k : Nat) (o : Own) (mm : M) (r : List (Option (List PV))), k ≤ l.length ∧ f 0 = .bp a 0 ∧ f 3 = .ep [.sl .no (vs.map Va.pv), .sl .no (l.map Qu.pv)] ∧ f 4 = .bp m.nb 0 ∧ f 5 = .bp (m.nb + 1) 0 ∧ f 6 = pI k ∧
  m' = cnt a (mm.ext (some [.sl .full [], .sl .full []] :: some [.sl .no (V.1.map Va.pv), .sl o ((plQs (l.take k) V.2).1.map Qu.pv)] :: r)) (plQs (l.take k) V.2).2 ∧ Toks m mm ∧ Mine m mm o 16) := ⟨_, fun _ _ => rfl⟩
 refine aLoop I (fun f m => l.length - numOf (f 6)) ?_ ?_
 ·rw [hI]; exact ⟨0, .full, m, [], by omega, rfl, rfl, rfl, rfl, rfl, rfl, .refl m, .full⟩
 intro f m' hrel
 rw [hI] at hrel
 obtain ⟨k, o, mm, r, hk, f0, f3, f4, f5, f6, rfl, ht, ho⟩ := hrel
 have hnb := ht.nb
 have hAm : a < mm.nb := by omega
 cases c1 : decide ((k : Int) < (l.length : Int)) with
 | false =>
  have hk' : k = l.length := by simp at c1; omega
  subst hk'
  rw [List.take_length]
  generalize plQs l V.2 = P at *
  (repeat (first | refine aSeq fun X hX => ?_ | (first | refine aExit ?_ | refine aRet ?_); try simp only [slx, ↓reduceIte, jA, reduceCtorEq] | (first | apply aReg | apply aIf); simp -implicitDefEqProofs only [↓slp, ↓reduceIte, reduceCtorEq, jA, jB, jE, jF, Yf, f3, f4, f5, f6, c1, hnb, hA, pI] | apply hX; clear hX X | clear hX X; apply hX; clear hX X | intro hlen; unfold maxLen at hlen))
  simp only [aPost, Try.results38, aRes_n, aRes_t, aRes_c, pack_one, pack_two]
  simp -implicitDefEqProofs only [↓reduceIte, jA, jB, jE, Yf, f4, hnb, hA]
  exact leave_cnt hA ht rfl ⟨rfl, rfl⟩
 | true =>
 have hlt : k < l.length := by simpa using c1
 have hg := getD_map Qu.pv l k hlt
 have hi : IntKind.i64.wrap ((k : Int) + 1) = ((k + 1 : Nat) : Int) := by rw [wrap64 (by omega)]; omega
 have hme : numOf (f 6) = k := by rw [f6]; exact Int.toNat_natCast k
 have htk : l.take (k + 1) = l.take k ++ [l[k]] := List.take_succ_eq_append_getElem hlt
 have hsn := plQs_snoc (l.take k) l[k] V.2
 rw [← htk] at hsn
 have hlen := plQs_len (l.take k) V.2
 rw [List.length_take, Nat.min_eq_left hk] at hlen
 obtain ⟨hqe, ⟨hqal, hqan⟩, hqm⟩ := hx _ (List.getElem_mem hlt)
 generalize l[k] = x at *
 generalize hP : plQs (l.take k) V.2 = P at *
 have hpq : plQ x P.2 = (.mk x.kind x.lhs x.name (plEs x.args (plE x.e (nxt P.2)).2).1 x.has (plE x.e (nxt P.2)).1 [] (nxt P.2) 1, (plEs x.args (plE x.e (nxt P.2)).2).2) := rfl
 have hqm' : x.arms.map Am.pv = [] := by rw [hqm]; rfl
 (repeat (first | refine aSeq fun X hX => ?_ | refine aSkip ?_ | (first | apply aReg | apply aIf); simp -implicitDefEqProofs only [↓slp, ↓reduceIte, reduceCtorEq, jA, jB, jE, jF, Yf, f0, f3, f6, c1, hg, hqm', hnb, hA, pI, List.getElem?_concat_length, set_concat_length] | apply hX; clear hX X | intro hlen; unfold maxLen at hlen | apply And.intro; focus omega))
 refine callM (cnext_any a _ (by first | assumption | (rw [ext_nb]; omega)) _) ?_
 rintro v m' ⟨rfl, rfl⟩
 simp -implicitDefEqProofs only [↓slp, ↓reduceIte, reduceCtorEq, jA, jB, jE, jF, Yf, f6, hnb, hA, pI, List.getElem?_concat_length, set_concat_length]
 (repeat (first | refine aSeq fun X hX => ?_ | refine aReg ?_; simp -implicitDefEqProofs only [↓slp, ↓reduceIte, reduceCtorEq, jA, jB, jE, jF, Yf, f0, hnb, hA, List.getElem?_concat_length]; try simp only [fo] | apply hX; clear hX X))
 refine callM (cexpr_any x.e hqe a _ (by rw [ext_nb]; omega) _) ?_
 rintro v m' ⟨rfl, rfl⟩
 generalize plE x.e (nxt P.2) = q at *
 simp -implicitDefEqProofs only [↓slp, ↓reduceIte, reduceCtorEq, jA, jB, jE, jF, Yf, f6, hnb, hA, pI, List.getElem?_concat_length, set_concat_length]; try simp only [fo]
 (repeat (first | refine aSeq fun X hX => ?_ | refine aBlk ?_ | refine aReg ?_; simp -implicitDefEqProofs only [↓slp, jF, Yf, f6, pI] | apply hX; clear hX X))
 obtain ⟨J, hJ⟩ : ∃ J : F → M → Prop, ∀ f m', J f m' = (∃ (j : Nat) (o2 : Own) (mn : M), j ≤ x.args.length ∧ f 0 = .bp a 0 ∧ f 3 = .ep [.sl .no (vs.map Va.pv), .sl .no (l.map Qu.pv)] ∧ f 4 = .bp m.nb 0 ∧ f 5 = .bp (m.nb + 1) 0 ∧ f 6 = pI k ∧ f 7 = .bp (m.nb + (r.length + 1 + 1)) 0 ∧ f 8 = .sl o2 ((plEs (x.args.take j) q.2).1.map Ex.pv) ∧ f 9 = pI j ∧
  m' = cnt a (mn.ext (some [.sl .full [], .sl .full []] :: some [.sl .no (V.1.map Va.pv), .sl o (P.1.map Qu.pv)] :: (r ++ [some [.v (.int .u8 x.kind), .sl .no (x.lhs.map pS), .v (.string x.name), .sl .no (x.args.map Ex.pv), .v (.bool x.has), .v (.int .u8 q.1.kind), .v (.int .u8 q.1.op), .v (.int .i32 q.1.n), .v (.string q.1.name), .sl .no (q.1.names.map pS), .sl .no (q.1.kids.map Ex.pv), .v (.int .i64 q.1.line), .v (.int .i64 q.1.col), .sl .no [], .v (.int .i64 (nxt P.2)), .v (.int .i64 1)]]))) (plEs (x.args.take j) q.2).2 ∧ Toks m mn ∧ Mine m mn o 16 ∧ Mine m mn o2 8 ∧ (∀ t, o2 = .tok t → o ≠ .tok t)) := ⟨_, fun _ _ => rfl⟩
 refine aLoop J (fun f m => x.args.length - numOf (f 9)) ?_ ?_
 ·rw [hJ]; exact ⟨0, .full, mm, by omega, f0, f3, f4, f5, f6, by rw [← hnb]; rfl, rfl, rfl, rfl, ht, ho, .full, fun t h => by cases h⟩
 clear f0 f3 f4 f5 ht ho hnb hAm
 intro g m' hrel
 rw [hJ] at hrel
 obtain ⟨j, o2, mn, hj, f0, f3, f4, f5, f6', f7, f8, f9, rfl, ht, ho, ho2, hne⟩ := hrel
 have hnb := ht.nb
 have hAm : a < mn.nb := by omega
 cases c2 : decide ((j : Int) < (x.args.length : Int)) with
 | true =>
  have hjl : j < x.args.length := by simpa using c2
  have hgj := getD_map Ex.pv x.args j hjl
  have hji : IntKind.i64.wrap ((j : Int) + 1) = ((j + 1 : Nat) : Int) := by rw [wrap64 (by omega)]; omega
  have hjm : numOf (g 9) = j := by rw [f9]; exact Int.toNat_natCast j
  have hjk : x.args.take (j + 1) = x.args.take j ++ [x.args[j]] := List.take_succ_eq_append_getElem hjl
  have hjn := plEs_snoc (x.args.take j) x.args[j] q.2
  rw [← hjk] at hjn
  have hjlen := plEs_len (x.args.take j) q.2
  rw [List.length_take, Nat.min_eq_left hj] at hjlen
  have hyn := Ex.nars_mem _ hqan _ (List.getElem_mem hjl)
  generalize x.args[j] = y at *
  generalize hR : plEs (x.args.take j) q.2 = R at *
  (repeat (first | refine aSeq fun X hX => ?_ | refine aBlk ?_ | refine aSkip ?_ | (first | apply aReg | apply aIf); simp -implicitDefEqProofs only [↓slp, ↓reduceIte, reduceCtorEq, jA, jB, jD, jE, jF, Yf, f0, f7, f8, f9, c2, hgj, hnb, hA, pI, List.getElem?_concat_length]; try simp only [fo] | apply hX; clear hX X | intro hlen; unfold maxLen at hlen | apply And.intro; focus omega))
  refine callM (cexpr_any y hyn a _ (by rw [ext_nb]; omega) _) ?_
  rintro v m' ⟨rfl, rfl⟩
  generalize plE y R.2 = z at *
  have hfree := ho2.free
  have q1 : R.1.length + 1 ≤ maxLen := by unfold maxLen; omega
  have q2 : (R.1.length + 1) * 88 ≤ 140737488355328 := by omega
  have q3 := ex_len R.1
  simp -implicitDefEqProofs only [↓slp, ↓reduceIte, jA, jB, jC, jE, jF, Yf, f9, pI]; try simp only [fo]
  (repeat (first | refine aReg ?_; simp -implicitDefEqProofs only [↓slp, ↓reduceIte, jA, jF, Yf, f9, hji, pI]; try simp only [fo] | apply hX; clear hX X | apply And.intro; focus ((repeat' apply And.intro) <;> first | omega | assumption)))
  rw [hJ]
  exact ⟨⟨j + 1, .tok mn.nt, _, hjl, f0, f3, f4, f5, f6', f7, by rw [hjn, List.map_append]; rfl, rfl, by rw [hjn], ht.use ho2, Mine.other ho hne, Mine.new ht o2 8, ho.ne_new⟩, by omega⟩
 | false =>
  have hj' : j = x.args.length := by simp at c2; omega
  subst hj'
  rw [List.take_length] at f8
  rw [List.take_length]
  rw [show plQ x P.2 = _ from hpq] at hsn
  generalize plEs x.args q.2 = R at *
  (repeat (first | refine aSeq fun X hX => ?_ | refine aBlk ?_ | refine aExit ?_; try simp only [slx, ↓reduceIte, jA, reduceCtorEq] | (first | apply aReg | apply aIf); simp -implicitDefEqProofs only [↓slp, ↓reduceIte, reduceCtorEq, jA, jB, jD, jE, jF, Yf, f7, f8, f9, c2, hnb, hA, pI, List.getElem?_concat_length, set_concat_length] | apply hX; clear hX X | clear hX X; apply hX; clear hX X | intro hlen; unfold maxLen at hlen))
  obtain ⟨L, hL⟩ : ∃ L : F → M → Prop, ∀ f m', L f m' = (f 0 = .bp a 0 ∧ f 3 = .ep [.sl .no (vs.map Va.pv), .sl .no (l.map Qu.pv)] ∧ f 4 = .bp m.nb 0 ∧ f 5 = .bp (m.nb + 1) 0 ∧ f 6 = pI k ∧ f 7 = .bp (m.nb + (r.length + 1 + 1)) 0 ∧ f 10 = .sl .full [] ∧ f 11 = pI 0 ∧
   m' = cnt a (mn.ext (some [.sl .full [], .sl .full []] :: some [.sl .no (V.1.map Va.pv), .sl o (P.1.map Qu.pv)] :: (r ++ [some [.v (.int .u8 x.kind), .sl .no (x.lhs.map pS), .v (.string x.name), .sl o2 (R.1.map Ex.pv), .v (.bool x.has), .v (.int .u8 q.1.kind), .v (.int .u8 q.1.op), .v (.int .i32 q.1.n), .v (.string q.1.name), .sl .no (q.1.names.map pS), .sl .no (q.1.kids.map Ex.pv), .v (.int .i64 q.1.line), .v (.int .i64 q.1.col), .sl .no [], .v (.int .i64 (nxt P.2)), .v (.int .i64 1)]]))) R.2) := ⟨_, fun _ _ => rfl⟩
  refine aLoop L (fun f m => 0) ?_ ?_
  ·rw [hL]; exact ⟨f0, f3, f4, f5, f6', f7, rfl, rfl, rfl⟩
  clear f0 f3 f4 f5 f6' f7 f8 f9
  intro g1 m' hrel
  rw [hL] at hrel
  obtain ⟨f0, f3, f4, f5, f6', f7, f10, f11, rfl⟩ := hrel
  have hfree := ho.free
  have q1 : P.1.length + 1 ≤ maxLen := by unfold maxLen; omega
  have q3 := qu_len P.1
  have hz0 : decide ((0 : Int) < ((0 : Nat) : Int)) = false := rfl
  (repeat (first | refine aSeq fun X hX => ?_ | refine aExit ?_; try simp only [slx, ↓reduceIte, jA, reduceCtorEq] | (first | apply aReg | apply aIf); simp -implicitDefEqProofs only [forall_eq, ↓slp, ↓reduceIte, reduceCtorEq, jA, jB, jC, jD, jE, jF, Yf, f5, f6', f7, f10, f11, hz0, hi, hnb, hA, pI, List.getElem?_concat_length, set_concat_length] | apply hX; clear hX X | clear hX X; apply hX; clear hX X | intro hlen; unfold maxLen at hlen | apply And.intro; focus ((repeat' apply And.intro) <;> first | omega | assumption)))
  rw [hI]
  exact ⟨⟨k + 1, .tok mn.nt, _, r ++ [_], hlt, f0, f3, f4, f5, rfl, by rw [hsn, List.map_append, List.map_cons, List.map_nil, Qu.pv_eq]; rfl, ht.use ho, Mine.new ht o 16⟩, by omega⟩
end Go.Proofs.Ytaealemhegdmpaa

/-
 Places for all parts: a program without types whose nodes are flat.
-/
set_option linter.unusedVariables false
set_option linter.unusedSimpArgs false
namespace Go.Proofs.Ytaealemhegdmpaa
open Nat renaming reduceEqDiff → jA, reduceAdd → jB, reduceMul → jC, reduceLT → jD, reduceLeDiff → jE, reduceBEq → jF, reduceBNe → jG
open Int renaming reduceLE → jH, reduceLT → jI, reduceToNat → jJ, reduceEq → jK
open Go
-- EXX: No.settle_pv, No.pure_pv, No.cells_pv, No.cs, Qu.settle_pv
set_option maxRecDepth 20000
-- TNAMES: int; uint8; int32; string; bool; []string; []api.Expr; api.Expr; *metronomeref04.counter; metronomeref04.counter; api.Pos; api.Type; []api.On; api.Var; []api.Var; api.Equation; []api.Equation; api.Block; api.Node; []api.Node; api.Enum; []api.Enum; api.Program
set_option linter.defProp false
def Yg := And.intro @slb (And.intro @tfA (And.intro @Ex.settle_pv (And.intro @Ex.pure_pv (And.intro @Ex.cells_pv (And.intro @Ex.cs.eq_1 (And.intro @On.pv.eq_1 (And.intro @Ty.pv.eq_1 (And.intro @Va.settle_pv (And.intro @Va.pure_pv (And.intro @Va.cells_pv (And.intro @Va.cs.eq_1 (And.intro @No.settle_pv (And.intro @No.pure_pv (And.intro @No.cells_pv (And.intro @No.cs.eq_1 @Qu.settle_pv)))))))))))))))

theorem cnt_mk {m : M} {z y : Option (List PV)} {r : List (Option (List PV))} {a : Nat} {c : Int} (h : m.nb + 1 = a) : cnt a (m.ext (z :: y :: r)) c = m.ext (z :: some (cN c) :: r) := by
 subst h
 unfold cnt
 rw [ext_upd (i := 1) rfl]
 rfl
theorem cnt_lift {P : Program} {mm : M} {a : Nat} (h : mm.nb + 1 = a) {f : FuncId} {args : List PV} {z : Option (List PV)} {r : List (Option (List PV))} {c c' : Int} {v0 : PV}
    (hc : ACalls P f args (cnt a (mm.ext (z :: some (cN c) :: r)) c) (fun v m' => v = v0 ∧ m' = cnt a (mm.ext (z :: some (cN c) :: r)) c')) : ACalls P f args (mm.ext (z :: some (cN c) :: r)) (fun v m' => v = v0 ∧ m' = mm.ext (z :: some (cN c') :: r)) := by
 rw [cnt_mk h] at hc
 exact ACalls.mono hc fun v m' hh => ⟨hh.1, by rw [hh.2, cnt_mk h]⟩
theorem cnt_in {mm : M} {a : Nat} (h : mm.nb + 1 = a) {z y : Option (List PV)} {r : List (Option (List PV))} : a < (mm.ext (z :: y :: r)).nb := by
 rw [ext_nb]; simp only [List.length_cons]; omega
def plN (n : No) (c : Int) : No × Int :=
 (⟨n.name, (plVs n.ins (nxt c)).1, (plVs n.outs (plVs n.ins (nxt c)).2).1, ⟨(plVs n.b.vars (plVs n.outs (plVs n.ins (nxt c)).2).2).1, (plQs n.b.eqs (plVs n.b.vars (plVs n.outs (plVs n.ins (nxt c)).2).2).2).1⟩, nxt c, 1⟩,
  (plQs n.b.eqs (plVs n.b.vars (plVs n.outs (plVs n.ins (nxt c)).2).2).2).2)
def plNs : List No → Int → List No × Int
 | [], c => ([], c)
 | v :: l, c => ((plN v c).1 :: (plNs l (plN v c).2).1, (plNs l (plN v c).2).2)
theorem plNs_snoc (l : List No) (x : No) : ∀ c, plNs (l ++ [x]) c = ((plNs l c).1 ++ [(plN x (plNs l c).2).1], (plN x (plNs l c).2).2) := by
 induction l with
 | nil => intro c; simp [plNs]
 | cons a l ih => intro c; simp [plNs, ih]
theorem plNs_len (l : List No) : ∀ c, (plNs l c).1.length = l.length := by
 induction l with
 | nil => intro c; rfl
 | cons a l ih => intro c; simp [plNs, ih]
theorem no_len7 (l : List No) : ∀ x ∈ l.map No.pv, x.cells.length = 7 := fun x hx => by
 obtain ⟨a, _, rfl⟩ := List.mem_map.1 hx
 rfl
structure No.flat (n : No) : Prop where
 ins : n.ins.length ≤ 1000000 ∧ ∀ v ∈ n.ins, v.first.nar
 outs : n.outs.length ≤ 1000000 ∧ ∀ v ∈ n.outs, v.first.nar
 vars : n.b.vars.length ≤ 1000000 ∧ ∀ v ∈ n.b.vars, v.first.nar
 eqs : n.b.eqs.length ≤ 1000000 ∧ ∀ q ∈ n.b.eqs, q.flat
set_option maxHeartbeats 8000000 in
theorem placed_any (l : List No) (hl : l.length ≤ 1000000) (hx : ∀ n ∈ l, n.flat) (m : M) :
    ACalls Try.prog 20 [.ag [.sl .no [], .sl .no (l.map No.pv)]] m (fun v m' => v = .ag [.sl .no [], .sl .no ((plNs l 0).1.map No.pv)] ∧ m' = m) := by
 have hz0 : decide ((0 : Int) < ((0 : Nat) : Int)) = false := rfl
 refine ACalls.enter (mu := [2, 4, 6, 8, 10]) ok_mix Try.func20 rfl (by kernel_rfl) (by kernel_rfl) (by simp only [List.length_cons, List.length_nil, Try.ntmps20]; omega) ?_
 (repeat (first | refine aSeq fun X hX => ?_ | refine aBlk ?_ | refine aReg ?_; simp -implicitDefEqProofs only [↓slp, ↓reduceIte, jA, jB, jE, jF, Yg] | apply hX; clear hX X))
 obtain ⟨L, hL⟩ : ∃ L : F → M → Prop, ∀ f m', L f m' = (f 1 = .ep [.sl .no [], .sl .no (l.map No.pv)] ∧ f 2 = .bp m.nb 0 ∧ f 3 = .bp (m.nb + 1) 0 ∧ f 4 = .bp (m.nb + 2) 0 ∧ f 5 = pI 0 ∧ m' = m.ext [some [.sl .full [], .sl .full []], some (cN 0), some [.sl .full [], .sl .full []]]) := ⟨_, fun _ _ => rfl⟩
 refine aLoop L (fun f m => 0) ?_ ?_
 ·rw [hL]; exact ⟨rfl, rfl, rfl, rfl, rfl, rfl⟩
 intro f m' hrel
 rw [hL] at hrel
 obtain ⟨f1, f2, f3, f4, f5, rfl⟩ := hrel
 (repeat (first | refine aSeq fun X hX => ?_ | refine aBlk ?_ | refine aExit ?_; try simp only [slx, ↓reduceIte, jA, reduceCtorEq] | (first | apply aReg | apply aIf); simp -implicitDefEqProofs only [↓slp, ↓reduceIte, reduceCtorEq, jA, jB, jD, jE, jF, Yg, f1, f5, pI, hz0] | apply hX; clear hX X | clear hX X; apply hX; clear hX X | intro hlen; unfold maxLen at hlen))
 obtain ⟨I, hI⟩ : ∃ I : F → M → Prop, ∀ f m', I f m' = (∃ (k : Nat) (o : Own) (mm : M) (r : List (Option (List PV))), k ≤ l.length ∧ f 1 = .ep [.sl .no [], .sl .no (l.map No.pv)] ∧ f 2 = .bp m.nb 0 ∧ f 3 = .bp (m.nb + 1) 0 ∧ f 4 = .bp (m.nb + 2) 0 ∧ f 7 = pI k ∧
  m' = mm.ext (some [.sl .full [], .sl .full []] :: some (cN (plNs (l.take k) 0).2) :: some [.sl .full [], .sl o ((plNs (l.take k) 0).1.map No.pv)] :: r) ∧ Toks m mm ∧ Mine m mm o 7) := ⟨_, fun _ _ => rfl⟩
 refine aLoop I (fun f m => l.length - numOf (f 7)) ?_ ?_
 ·rw [hI]; exact ⟨0, .full, m, [], by omega, f1, f2, f3, f4, rfl, rfl, .refl m, .full⟩
 clear f1 f2 f3 f4 f5
 intro f m' hrel
 rw [hI] at hrel
 obtain ⟨k, o, mm, r, hk, f1, f2, f3, f4, f7, rfl, ht, ho⟩ := hrel
 have hnb := ht.nb
 have hA : mm.nb + 1 = m.nb + 1 := by omega
 cases c1 : decide ((k : Int) < (l.length : Int)) with
 | false =>
  have hk' : k = l.length := by simp at c1; omega
  subst hk'
  rw [List.take_length]
  generalize plNs l 0 = P at *
  (repeat (first | refine aSeq fun X hX => ?_ | (first | refine aExit ?_ | refine aRet ?_); try simp only [slx, ↓reduceIte, jA, reduceCtorEq] | (first | apply aReg | apply aIf); simp -implicitDefEqProofs only [↓slp, ↓reduceIte, reduceCtorEq, jA, jB, jE, jF, Yg, f1, f2, f4, f7, c1, hnb, pI] | apply hX; clear hX X | clear hX X; apply hX; clear hX X | intro hlen; unfold maxLen at hlen))
  simp only [aPost, Try.results20, aRes_n, aRes_t, aRes_c, pack_one, pack_two]
  simp -implicitDefEqProofs only [↓reduceIte, jA, jB, jE, Yg, f2, hnb]
  exact leave_toks ht rfl ⟨rfl, rfl⟩
 | true =>
 have hlt : k < l.length := by simpa using c1
 have hg := getD_map No.pv l k hlt
 have hi : IntKind.i64.wrap ((k : Int) + 1) = ((k + 1 : Nat) : Int) := by rw [wrap64 (by omega)]; omega
 have hme : numOf (f 7) = k := by rw [f7]; exact Int.toNat_natCast k
 have htk : l.take (k + 1) = l.take k ++ [l[k]] := List.take_succ_eq_append_getElem hlt
 have hsn := plNs_snoc (l.take k) l[k] 0
 rw [← htk] at hsn
 have hlen := plNs_len (l.take k) 0
 rw [List.length_take, Nat.min_eq_left hk] at hlen
 obtain ⟨⟨hi1, hi2⟩, ⟨ho1, ho2⟩, ⟨hv1, hv2⟩, ⟨he1, he2⟩⟩ := hx _ (List.getElem_mem hlt)
 generalize l[k] = x at *
 generalize hP : plNs (l.take k) 0 = P at *
 have hpn : plN x P.2 = (⟨x.name, (plVs x.ins (nxt P.2)).1, (plVs x.outs (plVs x.ins (nxt P.2)).2).1, ⟨(plVs x.b.vars (plVs x.outs (plVs x.ins (nxt P.2)).2).2).1, (plQs x.b.eqs (plVs x.b.vars (plVs x.outs (plVs x.ins (nxt P.2)).2).2).2).1⟩, nxt P.2, 1⟩,
  (plQs x.b.eqs (plVs x.b.vars (plVs x.outs (plVs x.ins (nxt P.2)).2).2).2).2) := rfl
 (repeat (first | refine aSeq fun X hX => ?_ | refine aSkip ?_ | (first | apply aReg | apply aIf); simp -implicitDefEqProofs only [↓slp, ↓reduceIte, reduceCtorEq, jA, jB, jE, jF, Yg, f1, f3, f7, c1, hg, hnb, pI, List.getElem?_concat_length, set_concat_length] | apply hX; clear hX X | intro hlen; unfold maxLen at hlen | apply And.intro; focus omega))
 refine callE (cnt_lift hA (cnext_any _ _ (cnt_in hA) _)) ?_
 simp -implicitDefEqProofs only [↓slp, ↓reduceIte, reduceCtorEq, jA, jB, jE, jF, Yg, f7, hnb, pI, List.getElem?_concat_length, set_concat_length]
 (repeat (first | refine aSeq fun X hX => ?_ | refine aReg ?_; simp -implicitDefEqProofs only [↓slp, ↓reduceIte, reduceCtorEq, jA, jB, jD, jF, Yg, f3, hnb, List.getElem?_concat_length] | apply hX; clear hX X))
 refine callE (cnt_lift hA (cvars_any x.ins hi1 hi2 _ _ (cnt_in hA) _)) ?_
 generalize plVs x.ins (nxt P.2) = V1 at *
 simp -implicitDefEqProofs only [↓slp, ↓reduceIte, reduceCtorEq, jA, jB, jE, jF, Yg, f7, hnb, pI, List.getElem?_concat_length, set_concat_length]
 (repeat (first | refine aSeq fun X hX => ?_ | refine aReg ?_; simp -implicitDefEqProofs only [↓slp, ↓reduceIte, reduceCtorEq, jA, jB, jD, jF, Yg, f3, hnb, List.getElem?_concat_length] | apply hX; clear hX X))
 refine callE (cnt_lift hA (cvars_any x.outs ho1 ho2 _ _ (cnt_in hA) _)) ?_
 generalize plVs x.outs V1.2 = V2 at *
 simp -implicitDefEqProofs only [↓slp, ↓reduceIte, reduceCtorEq, jA, jB, jE, jF, Yg, f7, hnb, pI, List.getElem?_concat_length, set_concat_length]
 (repeat (first | refine aSeq fun X hX => ?_ | refine aReg ?_; simp -implicitDefEqProofs only [↓slp, ↓reduceIte, reduceCtorEq, jA, jB, jE, jF, Yg, f3, hnb, List.getElem?_concat_length] | apply hX; clear hX X))
 refine callE (cnt_lift hA (cblock_any x.b.vars x.b.eqs hv1 hv2 he1 he2 _ _ (cnt_in hA) _)) ?_
 generalize plVs x.b.vars V2.2 = V3 at *
 generalize plQs x.b.eqs V3.2 = V4 at *
 have hfree := ho.free
 have q1 : P.1.length + 1 ≤ maxLen := by unfold maxLen; omega
 have q2 : (P.1.length + 1) * 136 ≤ 140737488355328 := by omega
 have q3 := no_len7 P.1
 simp -implicitDefEqProofs only [↓slp, ↓reduceIte, reduceCtorEq, jA, jB, jE, jF, Yg, f7, hnb, pI, List.getElem?_concat_length, set_concat_length]
 (repeat (first | refine aReg ?_; simp -implicitDefEqProofs only [forall_eq, ↓slp, ↓reduceIte, reduceCtorEq, jA, jB, jC, jE, jF, Yg, f4, f7, hi, hnb, pI, List.getElem?_concat_length] | apply hX; clear hX X | apply And.intro; focus ((repeat' apply And.intro) <;> first | omega | assumption)))
 rw [hI]
 exact ⟨⟨k + 1, .tok mm.nt, _, r ++ [_], hlt, f1, f2, f3, f4, rfl, by rw [hsn, hpn, List.map_append, List.map_cons, List.map_nil]; rfl, ht.use ho, Mine.new ht o 7⟩, by omega⟩
end Go.Proofs.Ytaealemhegdmpaa
