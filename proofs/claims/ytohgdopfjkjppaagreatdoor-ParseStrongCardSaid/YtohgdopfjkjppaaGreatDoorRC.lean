/-
 Texts that belong together: PsR5, PsR6, PsR7, PsR8, PsR9, AbAll, PsR10, PsR11, PsR12, PsR13.
-/
-- halved
import Derived.Test.YtohgdopfjkjppaaGreatDoorPsR4
import Derived.Test.YtohgdopfjkjppaaGreatDoorAbDrw
/-
 The reference's reader: variables.
-/
set_option linter.unusedSectionVars false
set_option linter.unusedVariables false
set_option linter.unusedSimpArgs false
namespace Go.Proofs.YtohgdopfjkjppaaGreatDoor
open Nat renaming reduceEqDiff → jA, reduceAdd → jB, reduceMul → jC, reduceLT → jD, reduceLeDiff → jE, reduceBEq → jF, reduceBNe → jG
open Int renaming reduceLE → jH, reduceLT → jI, reduceToNat → jJ, reduceEq → jK
open Go
-- EXX: Tk.settle_pv, Tk.pure_pv, Tk.cells_pv, Tk.pv, Tk.cs, On.pv, qst_nb, qst_nt, qst_fresh, qst_use, qst_free, qst_alive, qst_a, qst_upda, qst_ext, qst_ext2, qst_ea, qst_own, qst_own0, qst_ou, qst_ou0
set_option maxRecDepth 20000
-- TNAMES: int; uint8; int32; string; bool; []string; []api.Expr; api.Expr; api.On; []api.On; api.Var; *metronomeref06.Reader; metronomeref06.Reader; metronomeref03.Token; []metronomeref03.Token; api.Pos; api.Kind; api.Type
set_option linter.defProp false
end Go.Proofs.YtohgdopfjkjppaaGreatDoor

/-
 The reference's reader: lists of variables, left sides, ways.
-/
set_option linter.unusedVariables false
set_option linter.unusedSimpArgs false
namespace Go.Proofs.YtohgdopfjkjppaaGreatDoor
open Nat renaming reduceEqDiff → jA, reduceAdd → jB, reduceMul → jC, reduceLT → jD, reduceLeDiff → jE, reduceBEq → jF, reduceBNe → jG
open Int renaming reduceLE → jH, reduceLT → jI, reduceToNat → jJ, reduceEq → jK
open Go
-- EXX: Tk.settle_pv, Tk.pure_pv, Tk.cells_pv, Tk.pv, Tk.cs, Va.settle_pv, Va.pure_pv, Va.cells_pv, Tr.settle_pv, Tr.pure_pv, Tr.cells_pv, Tr.cs, qst_nb, qst_nt, qst_fresh, qst_use, qst_free, qst_alive, qst_a, qst_upda, qst_ext, qst_ext2, qst_ea, qst_own, qst_own0, qst_ou, qst_ou0
set_option maxRecDepth 20000
-- TNAMES: int; uint8; int32; string; bool; []string; []api.Expr; api.Expr; api.On; []api.On; api.Var; []api.Var; api.Trans; []api.Trans; *metronomeref06.Reader; metronomeref06.Reader; metronomeref03.Token; []metronomeref03.Token; api.Pos; api.Kind; api.Type
set_option linter.defProp false
theorem mu0 {L : List Tk} {s : PS} (h : s.ok L) (h0 : s.k = 0) : 16 ≤ mu L s := by have := h.lt; unfold mu; rw [if_pos h0]; omega
section
variable {L : List Tk} (hL : TksOk L) (a : Nat) (m : M) (hA : a < m.nb) (s : PS) (hs : s.ok L) (d : Int) (hd : 0 ≤ d ∧ d ≤ 64)
include hL hA hs hd
end
end Go.Proofs.YtohgdopfjkjppaaGreatDoor

/-
 The reference's reader: types.
-/
set_option linter.unusedVariables false
set_option linter.unusedSimpArgs false
namespace Go.Proofs.YtohgdopfjkjppaaGreatDoor
open Nat renaming reduceEqDiff → jA, reduceAdd → jB, reduceMul → jC, reduceLT → jD, reduceLeDiff → jE, reduceBEq → jF, reduceBNe → jG
open Int renaming reduceLE → jH, reduceLT → jI, reduceToNat → jJ, reduceEq → jK
open Go
-- EXX: Tk.settle_pv, Tk.pure_pv, Tk.cells_pv, Tk.pv, Tk.cs, En.settle_pv, En.pure_pv, En.cells_pv, En.pv, En.cs, qst_nb, qst_nt, qst_fresh, qst_use, qst_free, qst_alive, qst_a, qst_upda, qst_ext, qst_ext2, qst_ea, qst_own, qst_own0, qst_ou, qst_ou0
set_option maxRecDepth 20000
-- TNAMES: int; uint8; int32; string; bool; []string; api.Enum; *metronomeref06.Reader; metronomeref06.Reader; metronomeref03.Token; []metronomeref03.Token; api.Pos; api.Kind
set_option linter.defProp false
section
variable {L : List Tk} (hL : TksOk L) (a : Nat) (m : M) (hA : a < m.nb) (s : PS) (hs : s.ok L) (d : Int)
include hL hA hs
end
end Go.Proofs.YtohgdopfjkjppaaGreatDoor

/-
 The reference's reader: blocks and equations.
-/
set_option linter.unusedVariables false
set_option linter.unusedSimpArgs false
namespace Go.Proofs.YtohgdopfjkjppaaGreatDoor
open Nat renaming reduceEqDiff → jA, reduceAdd → jB, reduceMul → jC, reduceLT → jD, reduceLeDiff → jE, reduceBEq → jF, reduceBNe → jG
open Int renaming reduceLE → jH, reduceLT → jI, reduceToNat → jJ, reduceEq → jK
open Go
-- EXX: Tk.settle_pv, Tk.pure_pv, Tk.cells_pv, Tk.pv, Tk.cs, Va.settle_pv, Va.pure_pv, Va.cells_pv, Tr.settle_pv, Tr.pure_pv, Tr.cells_pv, Qu.settle_pv, Qu.pure_pv, Qu.cells_pv, Am.settle_pv, Am.pure_pv, Am.cells_pv, qst_nb, qst_nt, qst_fresh, qst_use, qst_free, qst_alive, qst_a, qst_upda, qst_ext, qst_ext2, qst_ea, qst_own, qst_own0, qst_ou, qst_ou0
set_option maxRecDepth 20000
-- TNAMES: int; uint8; int32; string; bool; []string; []api.Expr; api.Expr; api.On; []api.On; api.Var; []api.Var; api.Trans; []api.Trans; api.Equation; []api.Equation; api.Arm; []api.Arm; api.Block; *metronomeref06.Reader; metronomeref06.Reader; metronomeref03.Token; []metronomeref03.Token; api.Pos; api.Kind; api.Type
set_option linter.defProp false
/-- The box of an equation. -/
abbrev quB (q : Qu) (oa on ok : Own) : List PV := [.v (.int .u8 q.kind), .sl .no (q.lhs.map pS), .v (.string q.name), .sl oa (q.args.map Ex.pv), .v (.bool q.has), .v (.int .u8 q.e.kind), .v (.int .u8 q.e.op), .v (.int .i32 q.e.n), .v (.string q.e.name), .sl on (q.e.names.map pS), .sl ok (q.e.kids.map Ex.pv), .v (.int .i64 q.e.line), .v (.int .i64 q.e.col), .sl .full [], .v (.int .i64 q.line), .v (.int .i64 q.col)]
/-- What right does. -/
def RightC (L : List Tk) : Prop := ∀ (a b : Nat) (m : M), a < m.nb → b < m.nb → b ≠ a → ∀ (s : PS), s.ok L → ∀ (d : Int), 0 ≤ d ∧ d ≤ 64 → ∀ (lhs : List Str) (t : Tk), m.get b = some ([.v (.int .u8 0), .sl .no (lhs.map pS), .v (.string ⟨#[]⟩), .sl .full [], .v (.bool false), .v (.int .u8 0), .v (.int .u8 0), .v (.int .i32 0), .v (.string ⟨#[]⟩), .sl .full [], .sl .full [], .v (.int .i64 0), .v (.int .i64 0), .sl .full [], .v (.int .i64 t.line), .v (.int .i64 t.col)] : List PV) →
 ACalls Tryz.prog 122 [.bp a 0, .bp b 0] (qst L a m s d) (fun v m' => ∃ oa on ok, (rRight L d lhs t s).1.arms = [] ∧ m' = qst L a (m.upd b (quB (rRight L d lhs t s).1 oa on ok)) (rRight L d lhs t s).2 d)
structure QBlC (L : List Tk) (f : Nat) : Prop where
 block : ∀ (a : Nat) (m : M), a < m.nb → ∀ (s : PS), s.ok L → ∀ (d : Int), 0 ≤ d ∧ d ≤ 64 → mu L s + 3 ≤ f → ACalls Tryz.prog 120 [.bp a 0] (qst L a m s d) (fun v m' => v = .ag [.sl .no ((rBlock L f d s).1.1.map Va.pv), .sl .no ((rBlock L f d s).1.2.map Qu.pv)] ∧ m' = qst L a m (rBlock L f d s).2 d)
 eqs : ∀ (a : Nat) (m : M), a < m.nb → ∀ (s : PS), s.ok L → ∀ (d : Int), (0 ≤ d ∧ d ≤ 65) ∧ (s.k = 0 → d ≤ 64) → mu L s + 2 ≤ f → ACalls Tryz.prog 81 [.bp a 0] (qst L a m s d) (fun v m' => v = .sl .no ((rEqs L f d [] s).1.map Qu.pv) ∧ m' = qst L a m (rEqs L f d [] s).2 d)
 eq : ∀ (a : Nat) (m : M), a < m.nb → ∀ (s : PS), s.ok L → s.k = 0 → ∀ (d : Int), 0 ≤ d ∧ d ≤ 64 → mu L s + 1 ≤ f → ACalls Tryz.prog 102 [.bp a 0] (qst L a m s d) (fun v m' => v = (rEq L f d s).1.pv ∧ m' = qst L a m (rEq L f d s).2 d)
 arms : ∀ (a : Nat) (m : M), a < m.nb → ∀ (s : PS), s.ok L → ∀ (d : Int), 0 ≤ d ∧ d ≤ 64 → ∀ st : Bool, mu L s + 2 ≤ f → ACalls Tryz.prog 119 [.bp a 0, pB st] (qst L a m s d) (fun v m' => v = .sl .no ((rArms L f d st s).1.map Am.pv) ∧ m' = qst L a m (rArms L f d st s).2 d)
section
variable {L : List Tk} (hL : TksOk L) {f : Nat} (IH : ∀ g, g ≤ f → QBlC L g)
include hL IH
end
end Go.Proofs.YtohgdopfjkjppaaGreatDoor

/-
 The reference's reader: one equation, arms.
-/
set_option linter.unusedVariables false
set_option linter.unusedSimpArgs false
namespace Go.Proofs.YtohgdopfjkjppaaGreatDoor
open Nat renaming reduceEqDiff → jA, reduceAdd → jB, reduceMul → jC, reduceLT → jD, reduceLeDiff → jE, reduceBEq → jF, reduceBNe → jG
open Int renaming reduceLE → jH, reduceLT → jI, reduceToNat → jJ, reduceEq → jK
open Go
-- EXX: Tk.settle_pv, Tk.pure_pv, Tk.cells_pv, Tk.pv, Tk.cs, Va.settle_pv, Va.pure_pv, Va.cells_pv, Tr.settle_pv, Tr.pure_pv, Tr.cells_pv, Qu.settle_pv, Qu.pure_pv, Qu.cells_pv, Am.settle_pv, Am.pure_pv, Am.cells_pv, qst_nb, qst_nt, qst_fresh, qst_use, qst_free, qst_alive, qst_a, qst_upda, qst_ext, qst_ext2, qst_ea, qst_own, qst_own0, qst_ou, qst_ou0
set_option maxRecDepth 20000
-- TNAMES: int; uint8; int32; string; bool; []string; []api.Expr; api.Expr; api.On; []api.On; api.Var; []api.Var; api.Trans; []api.Trans; api.Equation; []api.Equation; api.Arm; []api.Arm; api.Block; *metronomeref06.Reader; metronomeref06.Reader; metronomeref03.Token; []metronomeref03.Token; api.Pos; api.Kind; api.Type
set_option linter.defProp false
section
variable {L : List Tk} (hL : TksOk L) (hR : RightC L) {f : Nat} (IH : ∀ g, g ≤ f → QBlC L g)
include hL hR IH
end
end Go.Proofs.YtohgdopfjkjppaaGreatDoor

/-
 All orders of what is left: what is quiet may be looked at first.
-/
set_option linter.unusedVariables false
set_option linter.unusedSimpArgs false
namespace Go.Proofs.YtohgdopfjkjppaaGreatDoor
open Go

section
variable {P : Program} {mu : List Nat} {ops : Array Oper} {K : F → M → Prop}
end
end Go.Proofs.YtohgdopfjkjppaaGreatDoor

/-
 The reference's reader: right sides.
-/
set_option linter.unusedVariables false
set_option linter.unusedSimpArgs false
namespace Go.Proofs.YtohgdopfjkjppaaGreatDoor
open Nat renaming reduceEqDiff → jA, reduceAdd → jB, reduceMul → jC, reduceLT → jD, reduceLeDiff → jE, reduceBEq → jF, reduceBNe → jG
open Int renaming reduceLE → jH, reduceLT → jI, reduceToNat → jJ, reduceEq → jK
open Go
-- EXX: Tk.settle_pv, Tk.pure_pv, Tk.cells_pv, Tk.pv, Tk.cs, Va.settle_pv, Va.pure_pv, Va.cells_pv, Tr.settle_pv, Tr.pure_pv, Tr.cells_pv, Qu.settle_pv, Qu.pure_pv, Qu.cells_pv, Am.settle_pv, Am.pure_pv, Am.cells_pv, qst_nb, qst_nt, qst_fresh, qst_use, qst_free, qst_alive, qst_a, qst_upda, qst_ext, qst_ext2, qst_ea, qst_own, qst_own0, qst_ou, qst_ou0, rs_nb, rs_a, rs_b, rs_updb, rs_ext, rs_own, rs_own0, rs_ou, rs_ou0
set_option maxRecDepth 20000
-- TNAMES: int; uint8; int32; string; bool; []string; []api.Expr; api.Expr; api.On; []api.On; api.Var; []api.Var; api.Trans; []api.Trans; api.Equation; []api.Equation; api.Arm; []api.Arm; api.Block; *metronomeref06.Reader; metronomeref06.Reader; metronomeref03.Token; []metronomeref03.Token; api.Pos; api.Kind; api.Type


section
variable {L : List Tk} {a b : Nat} {m : M} {s : PS} {d : Int} {bs : List (Option (List PV))} {C : List PV}
theorem rs_nb : (qst L a ((m.upd b C).ext bs) s d).nb = m.nb + bs.length := by rw [qst_nb, ext_nb, upd_nb]
theorem rs_a (hA : a < m.nb) : (qst L a ((m.upd b C).ext bs) s d).get a = some [.sl .no (L.map Tk.pv), .v (.int .i64 (s.i : Int)), .v (.int .i64 d), .v (.int .i64 s.k), .v (.int .i64 s.l), .v (.int .i64 s.c)] := qst_a (by rw [ext_nb, upd_nb]; omega)
theorem rs_b (hA : a < m.nb) (hB : b < m.nb) (hne : b ≠ a) : (qst L a ((m.upd b C).ext bs) s d).get b = some C := by
 unfold qst
 rw [M.get_upd, if_neg (fun h => hne h.1)]
 have : (m.upd b C).get b = some C := by rw [M.get_upd, if_pos ⟨rfl, hB⟩]
 unfold M.get M.ext at *
 rw [List.getElem?_append_left (by have := upd_nb m b C; unfold M.nb at this hB; omega)]
 exact this
theorem rs_updb (hA : a < m.nb) (hB : b < m.nb) (hne : b ≠ a) {C2 : List PV} : (qst L a ((m.upd b C).ext bs) s d).upd b C2 = qst L a ((m.upd b C2).ext bs) s d := by
 have h2 : ((m.upd b C).ext bs).upd b C2 = (m.upd b C2).ext bs := by
  rw [ext_updOld (by rw [upd_nb]; exact hB)]
  unfold M.upd
  simp only [List.set_set]
 rw [← h2]
 unfold qst M.upd
 congr 1
 simp only []
 rw [List.set_comm _ _ (fun h => hne h.symm)]
theorem rs_ext (hA : a < m.nb) (cs : List (Option (List PV))) : (qst L a ((m.upd b C).ext bs) s d).ext cs = qst L a ((m.upd b C).ext (bs ++ cs)) s d := qst_ext2 bs cs (by rw [upd_nb]; exact hA)
theorem rs_own (hA : a < m.nb) {j : Nat} : (qst L a ((m.upd b C).ext bs) s d).get (m.nb + j) = (bs[j]?).join := qst_own (upd_nb m b C) (by rw [upd_nb]; exact hA)
theorem rs_own0 (hA : a < m.nb) : (qst L a ((m.upd b C).ext bs) s d).get m.nb = (bs[0]?).join := rs_own (j := 0) hA
theorem rs_ou (hA : a < m.nb) {j : Nat} {c : List PV} : (qst L a ((m.upd b C).ext bs) s d).upd (m.nb + j) c = qst L a ((m.upd b C).ext (bs.set j (some c))) s d := qst_ou (upd_nb m b C) (by rw [upd_nb]; exact hA)
theorem rs_ou0 (hA : a < m.nb) {c : List PV} : (qst L a ((m.upd b C).ext bs) s d).upd m.nb c = qst L a ((m.upd b C).ext (bs.set 0 (some c))) s d := rs_ou (j := 0) hA
theorem rs_0 (h : m.get b = some C) : m = (m.upd b C).ext [] := by
 unfold M.upd M.ext
 have : m.boxes.set b (some C) = m.boxes := by
  apply List.ext_getElem?
  intro i
  rw [List.getElem?_set]
  split
  ·rename_i hi
   subst hi
   split
   ·unfold M.get at h
    cases hq : m.boxes[b]? with
    | none => rw [hq] at h; cases h
    | some v => rw [hq] at h; cases v with
     | none => cases h
     | some c => cases h; rfl
   ·rename_i h2; rw [List.getElem?_eq_none (by omega)]
  ·rfl
 rw [this]
 simp
end
/-- Any state in which a box holds that. -/
def isBX (b : Nat) (C : List PV) (m2 : M) : Prop := ∃ x : Subtype (fun m2 : M => m2.get b = some C), m2 = x.1
theorem isBX_all {b : Nat} {C : List PV} {Q : M → Prop} : (∀ m2, isBX b C m2 → Q m2) = ∀ x : Subtype (fun m2 : M => m2.get b = some C), Q x.1 :=
 propext ⟨fun h x => h _ ⟨x, rfl⟩, fun h m2 ⟨x, e⟩ => e ▸ h x⟩
theorem isBX_of {b : Nat} {C : List PV} {m : M} (h : m.get b = some C) : isBX b C m := ⟨⟨m, h⟩, rfl⟩
section
variable {L : List Tk} {a b : Nat} {m : M} {s : PS} {d : Int} {bs : List (Option (List PV))} {C : List PV} {l : List Ex} {v : PV} {m' : M}
end
set_option linter.defProp false
end Go.Proofs.YtohgdopfjkjppaaGreatDoor

/-
 The reference's reader: nodes.
-/
set_option linter.unusedVariables false
set_option linter.unusedSimpArgs false
namespace Go.Proofs.YtohgdopfjkjppaaGreatDoor
open Nat renaming reduceEqDiff → jA, reduceAdd → jB, reduceMul → jC, reduceLT → jD, reduceLeDiff → jE, reduceBEq → jF, reduceBNe → jG
open Int renaming reduceLE → jH, reduceLT → jI, reduceToNat → jJ, reduceEq → jK
open Go
-- EXX: Tk.settle_pv, Tk.pure_pv, Tk.cells_pv, Tk.pv, Tk.cs, Va.settle_pv, Va.pure_pv, Va.cells_pv, Tr.settle_pv, Tr.pure_pv, Tr.cells_pv, Qu.settle_pv, Qu.pure_pv, Qu.cells_pv, No.settle_pv, No.pure_pv, No.cells_pv, Am.settle_pv, Am.pure_pv, Am.cells_pv, qst_nb, qst_nt, qst_fresh, qst_use, qst_free, qst_alive, qst_a, qst_upda, qst_ext, qst_ext2, qst_ea, qst_own, qst_own0, qst_ou, qst_ou0
set_option maxRecDepth 20000
-- TNAMES: int; uint8; int32; string; bool; []string; []api.Expr; api.Expr; api.On; []api.On; api.Var; []api.Var; api.Trans; []api.Trans; api.Equation; []api.Equation; api.Arm; []api.Arm; api.Block; api.Node; *metronomeref06.Reader; metronomeref06.Reader; metronomeref03.Token; []metronomeref03.Token; api.Pos; api.Kind; api.Type
set_option linter.defProp false
section
variable {L : List Tk} (hL : TksOk L) (a : Nat) (m : M) (hA : a < m.nb) (s : PS) (hs : s.ok L)
include hL hA hs
end
end Go.Proofs.YtohgdopfjkjppaaGreatDoor

/-
 The reference's reader: Program and Expr.
-/
set_option linter.unusedVariables false
set_option linter.unusedSimpArgs false
namespace Go.Proofs.YtohgdopfjkjppaaGreatDoor
open Nat renaming reduceEqDiff → jA, reduceAdd → jB, reduceMul → jC, reduceLT → jD, reduceLeDiff → jE, reduceBEq → jF, reduceBNe → jG
open Int renaming reduceLE → jH, reduceLT → jI, reduceToNat → jJ, reduceEq → jK
open Go
-- EXX: Tk.settle_pv, Tk.pure_pv, Tk.cells_pv, Tk.pv, Tk.cs, Va.settle_pv, Va.pure_pv, Va.cells_pv, Tr.settle_pv, Tr.pure_pv, Tr.cells_pv, Qu.settle_pv, Qu.pure_pv, Qu.cells_pv, No.settle_pv, No.pure_pv, No.cells_pv, En.settle_pv, En.pure_pv, En.cells_pv, Am.settle_pv, Am.pure_pv, Am.cells_pv, qst_nb, qst_nt, qst_fresh, qst_use, qst_free, qst_alive, qst_a, qst_upda, qst_ext, qst_ext2, qst_ea, qst_own, qst_own0, qst_ou, qst_ou0
set_option maxRecDepth 20000
-- TNAMES: int; uint8; int32; string; bool; []string; []api.Expr; api.Expr; api.On; []api.On; api.Var; []api.Var; api.Trans; []api.Trans; api.Equation; []api.Equation; api.Arm; []api.Arm; api.Block; api.Node; []api.Node; api.Enum; []api.Enum; api.Program; *metronomeref06.Reader; metronomeref06.Reader; metronomeref03.Token; []metronomeref03.Token; api.Pos; api.Kind; api.Type
set_option linter.defProp false
def rExprW (L : List Tk) : Ex × Int × Int × Int :=
 let r := eX L 0 ⟨0, 0, 0, 0⟩
 let s := if r.2.k == 0 && !((r.2.tk L).kind == 0) then r.2.here L 2 else r.2
 if s.k == 0 then (r.1, 0, 0, 0) else (z0, s.k, s.l, s.c)
def rdB (L : List Tk) (s : PS) (d : Int) : List PV := [.sl .no (L.map Tk.pv), .v (.int .i64 (s.i : Int)), .v (.int .i64 d), .v (.int .i64 s.k), .v (.int .i64 s.l), .v (.int .i64 s.c)]
theorem ok0 {L : List Tk} (hL : TksOk L) : (⟨0, 0, 0, 0⟩ : PS).ok L := ⟨hL.pos, fun h => absurd rfl h, .inl rfl⟩
abbrev xR : List PV := [.sl .full [], .sl .full []]
abbrev xP : List PV := [.v (.int .i64 0), .v (.int .i64 0)]
section
variable {L : List Tk} (hL : TksOk L) {m mm : M} (hn : mm.nb = m.nb) {PR : List PV} {s : PS} (hs : s.ok L)
include hn in
theorem hq {d : Int} : qst L (m.nb + 3) (mm.ext [some xR, some xP, some xP, some [], some PR]) s d = mm.ext [some xR, some xP, some xP, some (rdB L s d), some PR] := ext_upd (i := 3) hn
include hn in
include hL hn hs
end
end Go.Proofs.YtohgdopfjkjppaaGreatDoor

/-
 The reference's reader: Expr.
-/
set_option linter.unusedVariables false
set_option linter.unusedSimpArgs false
namespace Go.Proofs.YtohgdopfjkjppaaGreatDoor
open Nat renaming reduceEqDiff → jA, reduceAdd → jB, reduceMul → jC, reduceLT → jD, reduceLeDiff → jE, reduceBEq → jF, reduceBNe → jG
open Int renaming reduceLE → jH, reduceLT → jI, reduceToNat → jJ, reduceEq → jK
open Go
-- EXX: Tk.settle_pv, Tk.pure_pv, Tk.cells_pv, Tk.pv, Tk.cs, Va.settle_pv, Va.pure_pv, Va.cells_pv, Tr.settle_pv, Tr.pure_pv, Tr.cells_pv, Qu.settle_pv, Qu.pure_pv, Qu.cells_pv, Ex.settle_pv, Ex.pure_pv, No.settle_pv, No.pure_pv, No.cells_pv, En.settle_pv, En.pure_pv, En.cells_pv, Am.settle_pv, Am.pure_pv, Am.cells_pv, qst_nb, qst_nt, qst_fresh, qst_use, qst_free, qst_alive, qst_a, qst_upda, qst_ext, qst_ext2, qst_ea, qst_own, qst_own0, qst_ou, qst_ou0
set_option maxRecDepth 20000
-- TNAMES: int; uint8; int32; string; bool; []string; []api.Expr; api.Expr; api.On; []api.On; api.Var; []api.Var; api.Trans; []api.Trans; api.Equation; []api.Equation; api.Arm; []api.Arm; api.Block; api.Node; []api.Node; api.Enum; []api.Enum; api.Program; *metronomeref06.Reader; metronomeref06.Reader; metronomeref03.Token; []metronomeref03.Token; api.Pos; api.Kind; api.Type
set_option linter.defProp false
def J2 := And.intro @slb (And.intro @tfA (And.intro @Ex.settle_pv (And.intro @Ex.pure_pv (And.intro @Ex.cells_pv (And.intro @Ex.cs.eq_1 (And.intro @On.pv.eq_1 (And.intro @Ty.pv.eq_1 (And.intro @Va.settle_pv (And.intro @Va.pure_pv (And.intro @Va.cells_pv (And.intro @Va.cs.eq_1 (And.intro @Tk.settle_pv (And.intro @Tk.pure_pv (And.intro @Tk.cells_pv (And.intro @Tk.pv.eq_1 (And.intro @Tk.cs.eq_1 (And.intro @Tr.settle_pv (And.intro @Tr.pure_pv (And.intro @Tr.cells_pv (And.intro @Qu.settle_pv (And.intro @Qu.pure_pv (And.intro @Qu.cells_pv (And.intro @No.settle_pv (And.intro @No.pure_pv (And.intro @No.cells_pv (And.intro @En.settle_pv (And.intro @En.pure_pv (And.intro @En.cells_pv (And.intro @Am.settle_pv (And.intro @Am.pure_pv (And.intro @Am.cells_pv (And.intro @qst_nb (And.intro @qst_nt (And.intro @qst_fresh (And.intro @qst_use (And.intro @qst_free (And.intro @qst_alive (And.intro @qst_a (And.intro @qst_upda (And.intro @qst_ext (And.intro @qst_ext2 (And.intro @qst_ea (And.intro @qst_own (And.intro @qst_own0 (And.intro @qst_ou @qst_ou0)))))))))))))))))))))))))))))))))))))))))))))


abbrev xZ : List PV := [.v (.int .u8 0), .v (.int .u8 0), .v (.int .i32 0), .v (.string ⟨#[]⟩), .sl .full [], .sl .full [], .v (.int .i64 0), .v (.int .i64 0)]
set_option maxHeartbeats 8000000 in
theorem qExpr_bad (t : Str) {L : List Tk} {k l c : Int} (hk : k ≠ 0) (hW : ∀ m : M, ACalls Tryz.prog 18 [pS t] m (fun v m' => v = .tp [.sl .no (L.map Tk.pv), .v (.int .i64 k), posPV l c] ∧ m' = m)) (m : M) : ACalls Tryz.prog 8 [pS t] m (fun v m' => v = .tp [z0.pv, .v (.int .i64 k), posPV l c] ∧ m' = m) := by
 have hkb : (k == 0) = false := by simpa using hk
 refine ACalls.enter (mu := [2, 4, 7, 23, 9]) ok_mix Tryz.func8 rfl (by kernel_rfl) (by kernel_rfl) (by simp only [List.length_cons, List.length_nil, Tryz.ntmps8]; omega) ?_
 (repeat (first | refine aSeq fun X hX => ?_ | refine aReg ?_; simp -implicitDefEqProofs only [↓slp, ↓reduceIte, reduceCtorEq, jB, jF, J2] | apply hX; clear hX X))
 refine callM (hW _) ?_
 rintro v m' ⟨rfl, rfl⟩
 simp -implicitDefEqProofs only [↓slp, ↓reduceIte, jA, jB, jD, jE, jF, J2]
 (repeat (first | refine aSeq fun X hX => ?_ | (first | apply aReg | apply aIf); simp -implicitDefEqProofs only [↓slp, slb, ↓reduceIte, reduceCtorEq, jF, hkb] | apply hX; clear hX X))
 have hS : ∀ x : Subtype (fun m2 : M => m2.get (m.nb + 2) = some [.v (.int .i64 l), .v (.int .i64 c)]), x.1.get (m.nb + 2) = some [.v (.int .i64 l), .v (.int .i64 c)] := fun x => x.2
 refine aDrw (isBX (m.nb + 2) [.v (.int .i64 l), .v (.int .i64 c)]) (by kernel_rfl) (isBX_of (ext_get (i := 2) rfl)) ?_
 simp -implicitDefEqProofs only [↓slp, ↓reduceIte, jA, jB, jE, jF, J2, isBX_all, hS]
 refine ⟨isBX_of (ext_get (i := 2) rfl), isBX_of (ext_get (i := 2) rfl), ?_⟩
 (repeat (first | refine aRet ?_; try simp only [slx, ↓reduceIte, jA, reduceCtorEq] | apply hX; clear hX X))
 simp only [aPost, Tryz.results8, aRes_n, aRes_t, aRes_c, pack_one, pack_two]
 simp -implicitDefEqProofs only [↓reduceIte, jA, jB, jE, J2]
 exact leave_ext rfl ⟨rfl, rfl⟩
section
variable {L : List Tk} (hL : TksOk L) {m : M} {bs : List (Option (List PV))} {s : PS} (hs : s.ok L)
theorem hq5 {b c : List PV} {r : List (Option (List PV))} {d : Int} : qst L (m.nb + 3) (m.ext (some xZ :: some xP :: some b :: some c :: r)) s d = m.ext (some xZ :: some xP :: some b :: some (rdB L s d) :: r) := ext_upd (i := 3) rfl
theorem hq6 {b c : List PV} {r : List (Option (List PV))} : m.nb + 3 < (m.ext (some xZ :: some xP :: some b :: some c :: r)).nb := by rw [ext_nb]; simp only [List.length_cons]; omega
include hL hs
theorem yexpr : ACalls Tryz.prog 19 [.bp (m.nb + 3) 0] (m.ext [some xZ, some xP, some xP, some (rdB L s 0)]) (fun v m' => v = (eX L 0 s).1.pv ∧ m' = m.ext [some xZ, some xP, some xP, some (rdB L (eX L 0 s).2 0)]) := by
 have := qeX_any hL (m.nb + 3) _ (hq6 (b := xP) (c := []) (r := [])) s hs 0 ⟨by omega, by omega⟩
 simpa only [hq5] using this
theorem ytok {e : List PV} : ACalls Tryz.prog 20 [.bp (m.nb + 3) 0] (m.ext [some xZ, some xP, some xP, some (rdB L s 0), some e]) (fun v m' => v = (s.tk L).pv ∧ m' = m.ext [some xZ, some xP, some xP, some (rdB L s 0), some e]) := by
 have := qtok_any hL (m.nb + 3) _ (hq6 (b := xP) (c := []) (r := [some e])) s hs 0
 simpa only [hq5] using this
theorem yhere {e : List PV} (k : Int) : ACalls Tryz.prog 21 [.bp (m.nb + 3) 0, .v (.int .i64 k)] (m.ext [some xZ, some xP, some xP, some (rdB L s 0), some e]) (fun v m' => m' = m.ext [some xZ, some xP, some xP, some (rdB L (s.here L k) 0), some e]) := by
 have := qhere_any hL (m.nb + 3) _ (hq6 (b := xP) (c := []) (r := [some e])) s hs 0 k
 simpa only [hq5] using this
end
set_option maxHeartbeats 8000000 in
theorem qExpr_any (t : Str) {L : List Tk} (hL : TksOk L) (hW : ∀ m : M, ACalls Tryz.prog 18 [pS t] m (fun v m' => v = .tp [.sl .no (L.map Tk.pv), .v (.int .i64 0), posPV 0 0] ∧ m' = m)) (m : M) : ACalls Tryz.prog 8 [pS t] m (fun v m' => v = .tp [(rExprW L).1.pv, .v (.int .i64 (rExprW L).2.1), posPV (rExprW L).2.2.1 (rExprW L).2.2.2] ∧ m' = m) := by
 obtain ⟨r, hr⟩ : ∃ r, eX L 0 ⟨0, 0, 0, 0⟩ = r := ⟨_, rfl⟩
 obtain ⟨q, hq⟩ : ∃ q, (if r.2.k == 0 && !((r.2.tk L).kind == 0) then r.2.here L 2 else r.2) = q := ⟨_, rfl⟩
 have hun : rExprW L = if q.k == 0 then (r.1, 0, 0, 0) else (z0, q.k, q.l, q.c) := by rw [← hq, ← hr]; rfl
 have hrok : r.2.ok L := by rw [← hr]; exact (eX_adv hL (ok0 hL)).1.ok
 refine ACalls.enter (mu := [2, 4, 7, 23, 9]) ok_mix Tryz.func8 rfl (by kernel_rfl) (by kernel_rfl) (by simp only [List.length_cons, List.length_nil, Tryz.ntmps8]; omega) ?_
 (repeat (first | refine aSeq fun X hX => ?_ | refine aReg ?_; simp -implicitDefEqProofs only [↓slp, ↓reduceIte, reduceCtorEq, jB, jF, J2] | apply hX; clear hX X))
 refine callM (hW _) ?_
 rintro v m' ⟨rfl, rfl⟩
 simp -implicitDefEqProofs only [↓slp, ↓reduceIte, jA, jB, jD, jE, jF, J2]
 (repeat (first | refine aSeq fun X hX => ?_ | refine aSkip ?_ | (first | apply aReg | apply aIf); simp -implicitDefEqProofs only [↓slp, ↓reduceIte, jA, jB, jE, jF, J2] | apply hX; clear hX X))
 refine callM (yexpr hL (ok0 hL)) ?_
 rintro v m' ⟨rfl, rfl⟩
 rw [hr]
 obtain ⟨e, s⟩ := r
 simp -implicitDefEqProofs only [↓slp, ↓reduceIte, jA, jB, jE, jF, J2, rdB]; try simp only [fo]
 (repeat (first | (intro hlen; unfold maxLen at hlen) | (apply And.intro; (focus (first | omega | assumption | trivial | (repeat' apply And.intro) <;> first | omega | assumption | trivial)))))
 have k1n : (s.k == 0) = (s.k == 0) := rfl
 cases h1 : (s.k == 0) with
 | false =>
  rw [h1] at hq
  simp only [Bool.false_and, Bool.false_eq_true, ↓reduceIte] at hq
  subst hq
  rw [h1, if_neg (by simp)] at hun
  (repeat (first | refine aSeq fun X hX => ?_ | refine aSkip ?_ | (first | apply aReg | apply aIf); simp -implicitDefEqProofs only [↓slp, ↓reduceIte, reduceCtorEq, jA, jB, jD, jF, J2, h1]; try simp only [fo] | apply hX; clear hX X))
  generalize s = s9 at *
  have h8 := h1
  have h8n : (s9.k != 0) = true := by simp only [bne, h8]; rfl
  (repeat (first | refine aSeq fun X hX => ?_ | apply aBlk | refine aSkip ?_ | (first | refine aExit ?_ | refine aRet ?_); try simp only [slx, ↓reduceIte, jA, reduceCtorEq] | (first | apply aReg | apply aIf); simp -implicitDefEqProofs only [forall_eq, ↓slp, ↓reduceIte, reduceCtorEq, jA, jB, jC, jD, jE, jF, jG, jH, jI, jJ, jK, J2, rdB, h8, h8n]; try simp only [fo] | apply hX; clear hX X | clear hX X; apply hX; clear hX X | clear hX X; clear hX X; apply hX; clear hX X | intro hlen; unfold maxLen at hlen | apply And.intro; · first | assumption | and_intros <;> first | omega | assumption))
  have hS : ∀ x : Subtype (fun m2 : M => m2.get (m.nb + 3) = some [.sl .no (L.map Tk.pv), .v (.int .i64 (s9.i : Int)), .v (.int .i64 0), .v (.int .i64 s9.k), .v (.int .i64 s9.l), .v (.int .i64 s9.c)]), x.1.get (m.nb + 3) = some [.sl .no (L.map Tk.pv), .v (.int .i64 (s9.i : Int)), .v (.int .i64 0), .v (.int .i64 s9.k), .v (.int .i64 s9.l), .v (.int .i64 s9.c)] := fun x => x.2
  refine aDrw (isBX (m.nb + 3) [.sl .no (L.map Tk.pv), .v (.int .i64 (s9.i : Int)), .v (.int .i64 0), .v (.int .i64 s9.k), .v (.int .i64 s9.l), .v (.int .i64 s9.c)]) (by kernel_rfl) (isBX_of (ext_get (i := 3) rfl)) ?_
  simp -implicitDefEqProofs only [↓slp, ↓reduceIte, reduceCtorEq, jA, jB, jD, jE, jF, J2, isBX_all, hS]; try simp only [fo]
  refine ⟨isBX_of (ext_get (i := 3) rfl), isBX_of (ext_get (i := 3) rfl), ?_⟩
  (repeat (first | refine aRet ?_; try simp only [slx, ↓reduceIte, jA, reduceCtorEq] | apply hX; clear hX X))
  simp only [aPost, Tryz.results8, aRes_n, aRes_t, aRes_c, pack_one, pack_two]
  simp -implicitDefEqProofs only [↓reduceIte, jA, jB, jE, J2]; try simp only [fo]
  exact leave_ext rfl ⟨by rw [hun]; rfl, rfl⟩
 | true =>
  rw [h1] at hq
  simp only [Bool.true_and] at hq
  (repeat (first | refine aSeq fun X hX => ?_ | refine aReg ?_; simp -implicitDefEqProofs only [↓slp, ↓reduceIte, reduceCtorEq, jA, jB, jD, jF, J2, h1]; try simp only [fo] | apply hX; clear hX X))
  refine callM (ytok hL hrok) ?_
  rintro v m' ⟨rfl, rfl⟩
  obtain ⟨c1, g1⟩ : ∃ b, ((s.tk L).kind == 0) = b := ⟨_, rfl⟩
  have g1n : ((s.tk L).kind != 0) = !c1 := by rw [← g1]; rfl
  simp only [g1] at hq
  cases c1 with
  | true =>
   simp only [Bool.not_true, Bool.false_eq_true, ↓reduceIte] at hq
   subst hq
   rw [h1, if_pos rfl] at hun
   simp -implicitDefEqProofs only [↓slp, ↓reduceIte, jA, jB, jF, J2, rdB]; try simp only [fo]
   (repeat (first | refine aSeq fun X hX => ?_ | refine aSkip ?_ | refine aRet ?_ | (first | apply aReg | apply aIf); simp -implicitDefEqProofs only [↓slp, ↓reduceIte, reduceCtorEq, jA, jB, jD, jE, jF, J2, g1, h1]; try simp only [fo] | apply hX; clear hX X))
   generalize s = s9 at *
   have h8 := h1
   have h8n : (s9.k != 0) = false := by simp only [bne, h8]; rfl
   (repeat (first | refine aSeq fun X hX => ?_ | apply aBlk | refine aSkip ?_ | (first | refine aExit ?_ | refine aRet ?_); try simp only [slx, ↓reduceIte, jA, reduceCtorEq] | (first | apply aReg | apply aIf); simp -implicitDefEqProofs only [forall_eq, ↓slp, ↓reduceIte, reduceCtorEq, jA, jB, jC, jD, jE, jF, jG, jH, jI, jJ, jK, J2, rdB, h8, h8n]; try simp only [fo] | apply hX; clear hX X | clear hX X; apply hX; clear hX X | clear hX X; clear hX X; apply hX; clear hX X | intro hlen; unfold maxLen at hlen | apply And.intro; · first | assumption | and_intros <;> first | omega | assumption))
   simp only [aPost, Tryz.results8, aRes_n, aRes_t, aRes_c, pack_one, pack_two]
   simp -implicitDefEqProofs only [↓reduceIte, jA, jB, jE, J2]; try simp only [fo]
   exact leave_ext (by show (PV.tp [e.pv, .v (.int .i64 0), .ag [.v (.int .i64 0), .v (.int .i64 0)]]).settle.pure = true; simp only [PV.settle, PV.settles, Ex.settle_pv, PV.pure, PV.pures, Ex.pure_pv, Bool.and_self]) ⟨by rw [hun]; show (PV.tp [e.pv, .v (.int .i64 0), .ag [.v (.int .i64 0), .v (.int .i64 0)]]).settle = _; simp only [PV.settle, PV.settles, Ex.settle_pv], rfl⟩
  | false =>
   simp only [Bool.not_false, ↓reduceIte] at hq
   subst hq
   simp -implicitDefEqProofs only [↓slp, ↓reduceIte, jA, jB, jF, J2, rdB]; try simp only [fo]
   (repeat (first | (first | apply aReg | apply aIf); simp -implicitDefEqProofs only [↓slp, ↓reduceIte, reduceCtorEq, jA, jF, J2, g1]; try simp only [fo] | apply hX; clear hX X))
   refine callM (yhere hL hrok 2) ?_
   rintro v m' rfl
   have hkh : (s.here L 2).k ≠ 0 := fail_k (by decide)
   have h8 : ((s.here L 2).k == 0) = false := by simpa using hkh
   rw [h8, if_neg (by simp)] at hun
   generalize s.here L 2 = s9 at *
   simp -implicitDefEqProofs only [J2, rdB]; try simp only [fo]
   have h8n : (s9.k != 0) = true := by simp only [bne, h8]; rfl
   (repeat (first | refine aSeq fun X hX => ?_ | (first | apply aReg | apply aIf); simp -implicitDefEqProofs only [↓slp, ↓reduceIte, reduceCtorEq, jA, jB, jD, jF, J2, h8]; try simp only [fo] | apply hX; clear hX X))
   have hS : ∀ x : Subtype (fun m2 : M => m2.get (m.nb + 3) = some [.sl .no (L.map Tk.pv), .v (.int .i64 (s9.i : Int)), .v (.int .i64 0), .v (.int .i64 s9.k), .v (.int .i64 s9.l), .v (.int .i64 s9.c)]), x.1.get (m.nb + 3) = some [.sl .no (L.map Tk.pv), .v (.int .i64 (s9.i : Int)), .v (.int .i64 0), .v (.int .i64 s9.k), .v (.int .i64 s9.l), .v (.int .i64 s9.c)] := fun x => x.2
   refine aDrw (isBX (m.nb + 3) [.sl .no (L.map Tk.pv), .v (.int .i64 (s9.i : Int)), .v (.int .i64 0), .v (.int .i64 s9.k), .v (.int .i64 s9.l), .v (.int .i64 s9.c)]) (by kernel_rfl) (isBX_of (ext_get (i := 3) rfl)) ?_
   simp -implicitDefEqProofs only [↓slp, ↓reduceIte, reduceCtorEq, jA, jB, jD, jE, jF, J2, isBX_all, hS]; try simp only [fo]
   refine ⟨isBX_of (ext_get (i := 3) rfl), isBX_of (ext_get (i := 3) rfl), ?_⟩
   (repeat (first | refine aRet ?_; try simp only [slx, ↓reduceIte, jA, reduceCtorEq] | apply hX; clear hX X))
   simp only [aPost, Tryz.results8, aRes_n, aRes_t, aRes_c, pack_one, pack_two]
   simp -implicitDefEqProofs only [↓reduceIte, jA, jB, jE, J2]; try simp only [fo]
   exact leave_ext rfl ⟨by rw [hun]; rfl, rfl⟩
end Go.Proofs.YtohgdopfjkjppaaGreatDoor
