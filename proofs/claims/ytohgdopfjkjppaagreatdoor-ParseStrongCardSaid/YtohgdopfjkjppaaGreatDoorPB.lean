/-
 Texts that belong together: Pp5, Pp6, Pp7, AbFd, Pp8, Pp9, Pp10, Pp11, AbLv, Pp12.
-/
-- halved
import Derived.Test.YtohgdopfjkjppaaGreatDoorPp4
import Derived.Test.YtohgdopfjkjppaaGreatDoorRC
import Derived.Test.YtohgdopfjkjppaaGreatDoorGC
import Derived.Test.YtohgdopfjkjppaaGreatDoorTlA
import Derived.Test.YtohgdopfjkjppaaGreatDoorRnA
/-
 parse's reader: types, constants, variables.
-/
set_option linter.unusedSectionVars false
set_option linter.unusedVariables false
set_option linter.unusedSimpArgs false
namespace Go.Proofs.YtohgdopfjkjppaaGreatDoor
open Nat renaming reduceEqDiff → jA, reduceAdd → jB, reduceMul → jC, reduceLT → jD, reduceLeDiff → jE, reduceBEq → jF, reduceBNe → jG
open Int renaming reduceLE → jH, reduceLT → jI, reduceToNat → jJ, reduceEq → jK
open Go
-- EXX: Tk.settle_pv, Tk.pure_pv, Tk.cells_pv, Tk.pv, Tk.cs, On.pv, pst_nb, pst_nt, pst_fresh, pst_use, pst_free, pst_alive, pst_a, pst_upda, pst_ext, pst_ext2, pst_ea, pst_own, pst_own0, pst_ou, pst_ou0
set_option maxRecDepth 20000
-- TNAMES: int; uint8; int32; string; bool; []string; []api.Expr; api.Expr; api.On; []api.On; api.Var; *parse.reader; parse.reader; parse.stop; lex.Token; []lex.Token; api.Pos; api.Kind; api.Type; error; interface {}; faults.At; *faults.At
set_option linter.defProp false
section
variable {L : List Tk} (hL : TksOk L) (a : Nat) (m : M) (hA : a < m.nb) (s : PS) (hs : s.ok L) (k0 : s.k = 0) (d : Int)
include hL hA hs k0
end
end Go.Proofs.YtohgdopfjkjppaaGreatDoor

/-
 parse's reader: lists of variables, left sides, ways.
-/
set_option linter.unusedVariables false
set_option linter.unusedSimpArgs false
namespace Go.Proofs.YtohgdopfjkjppaaGreatDoor
open Nat renaming reduceEqDiff → jA, reduceAdd → jB, reduceMul → jC, reduceLT → jD, reduceLeDiff → jE, reduceBEq → jF, reduceBNe → jG
open Int renaming reduceLE → jH, reduceLT → jI, reduceToNat → jJ, reduceEq → jK
open Go
-- EXX: Tk.settle_pv, Tk.pure_pv, Tk.cells_pv, Tk.pv, Tk.cs, Va.settle_pv, Va.pure_pv, Va.cells_pv, Tr.settle_pv, Tr.pure_pv, Tr.cells_pv, Tr.cs, pst_nb, pst_nt, pst_fresh, pst_use, pst_free, pst_alive, pst_a, pst_upda, pst_ext, pst_ext2, pst_ea, pst_own, pst_own0, pst_ou, pst_ou0
set_option maxRecDepth 20000
-- TNAMES: int; uint8; int32; string; bool; []string; []api.Expr; api.Expr; api.On; []api.On; api.Var; []api.Var; api.Trans; []api.Trans; *parse.reader; parse.reader; parse.stop; lex.Token; []lex.Token; api.Pos; api.Kind; api.Type
set_option linter.defProp false
section
variable {L : List Tk} (hL : TksOk L) (a : Nat) (m : M) (hA : a < m.nb) (s : PS) (hs : s.ok L) (k0 : s.k = 0) (d : Int) (hd : 0 ≤ d ∧ d ≤ 64)
include hL hA hs k0 hd
end
end Go.Proofs.YtohgdopfjkjppaaGreatDoor

/-
 parse's reader: ways, types.
-/
set_option linter.unusedVariables false
set_option linter.unusedSimpArgs false
namespace Go.Proofs.YtohgdopfjkjppaaGreatDoor
open Nat renaming reduceEqDiff → jA, reduceAdd → jB, reduceMul → jC, reduceLT → jD, reduceLeDiff → jE, reduceBEq → jF, reduceBNe → jG
open Int renaming reduceLE → jH, reduceLT → jI, reduceToNat → jJ, reduceEq → jK
open Go
-- EXX: Tk.settle_pv, Tk.pure_pv, Tk.cells_pv, Tk.pv, Tk.cs, Va.settle_pv, Va.pure_pv, Va.cells_pv, Tr.settle_pv, Tr.pure_pv, Tr.cells_pv, Tr.cs, En.settle_pv, En.pure_pv, En.cells_pv, En.pv, En.cs, pst_nb, pst_nt, pst_fresh, pst_use, pst_free, pst_alive, pst_a, pst_upda, pst_ext, pst_ext2, pst_ea, pst_own, pst_own0, pst_ou, pst_ou0
set_option maxRecDepth 20000
-- TNAMES: int; uint8; int32; string; bool; []string; []api.Expr; api.Expr; api.On; []api.On; api.Var; []api.Var; api.Trans; []api.Trans; api.Enum; *parse.reader; parse.reader; parse.stop; lex.Token; []lex.Token; api.Pos; api.Kind; api.Type
set_option linter.defProp false
section
variable {L : List Tk} (hL : TksOk L) (a : Nat) (m : M) (hA : a < m.nb) (s : PS) (hs : s.ok L) (k0 : s.k = 0) (d : Int)
include hL hA hs k0
end
end Go.Proofs.YtohgdopfjkjppaaGreatDoor

/-
 A function that leaves by a panic may forget boxes of its caller's.
-/
set_option linter.unusedVariables false
set_option linter.unusedSimpArgs false
namespace Go.Proofs.YtohgdopfjkjppaaGreatDoor
open Go Go.RowKit

/-- The same, with boxes forgotten. -/
structure Forget (m m1 : M) : Prop where
 nb : m1.boxes.length = m.boxes.length
 toks : m1.toks = m.toks
 get : ∀ id c, m1.get id = some c → m.get id = some c
theorem Inv.forget {G : Ghost} {m m1 : M} {w : World} (hI : Inv G m w) (h : Forget m m1) : Inv G m1 w := by
 have ha : ∀ t s, m1.alive t s → m.alive t s := fun t s hx => by
  unfold M.alive at *
  rw [h.toks] at hx
  exact hx
 exact ⟨by rw [h.nb]; exact hI.nb, by rw [h.toks]; exact hI.nt, hI.base, fun id c hc => hI.box id c (h.get id c hc), fun id c hc => hI.boxset id c (h.get id c hc), fun id id' c c' h1 h2 => hI.inj id id' c c' (h.get _ _ h1) (h.get _ _ h2),
  fun t s hx => ⟨(hI.tok t s (ha t s hx)).1, fun b o hb => by
   obtain ⟨q1, q2, q3, q4, q5⟩ := (hI.tok t s (ha t s hx)).2 b o hb
   exact ⟨q1, q2, q3, q4, fun id c hc => q5 id c (h.get id c hc)⟩⟩, fun t t' s s' h1 h2 => hI.tokd t t' s s' (ha _ _ h1) (ha _ _ h2), hI.set, hI.lay⟩
end Go.Proofs.YtohgdopfjkjppaaGreatDoor

/-
 parse's reader: blocks and equations.
-/
set_option linter.unusedVariables false
set_option linter.unusedSimpArgs false
namespace Go.Proofs.YtohgdopfjkjppaaGreatDoor
open Nat renaming reduceEqDiff → jA, reduceAdd → jB, reduceMul → jC, reduceLT → jD, reduceLeDiff → jE, reduceBEq → jF, reduceBNe → jG
open Int renaming reduceLE → jH, reduceLT → jI, reduceToNat → jJ, reduceEq → jK
open Go
-- EXX: Tk.settle_pv, Tk.pure_pv, Tk.cells_pv, Tk.pv, Tk.cs, Va.settle_pv, Va.pure_pv, Va.cells_pv, Tr.settle_pv, Tr.pure_pv, Tr.cells_pv, Qu.settle_pv, Qu.pure_pv, Qu.cells_pv, Am.settle_pv, Am.pure_pv, Am.cells_pv, pst_nb, pst_nt, pst_fresh, pst_use, pst_free, pst_alive, pst_a, pst_upda, pst_ext, pst_ext2, pst_ea, pst_own, pst_own0, pst_ou, pst_ou0
set_option maxRecDepth 20000
-- TNAMES: int; uint8; int32; string; bool; []string; []api.Expr; api.Expr; api.On; []api.On; api.Var; []api.Var; api.Trans; []api.Trans; api.Equation; []api.Equation; api.Arm; []api.Arm; api.Block; *parse.reader; parse.reader; parse.stop; lex.Token; []lex.Token; api.Pos; api.Kind; api.Type
set_option linter.defProp false
/-- A box forgotten. -/
def M.del (m : M) (b : Nat) : M := ⟨m.boxes.set b none, m.toks⟩
/-- What right does. -/
def PRightC (L : List Tk) : Prop := ∀ (a b : Nat) (m : M), a < m.nb → b < m.nb → b ≠ a → ∀ (s : PS), s.ok L → s.k = 0 → ∀ (d : Int), 0 ≤ d ∧ d ≤ 64 → ∀ (lhs : List Str) (t : Tk), m.get b = some ([.v (.int .u8 0), .sl .no (lhs.map pS), .v (.string ⟨#[]⟩), .sl .full [], .v (.bool false), .v (.int .u8 0), .v (.int .u8 0), .v (.int .i32 0), .v (.string ⟨#[]⟩), .sl .full [], .sl .full [], .v (.int .i64 0), .v (.int .i64 0), .sl .full [], .v (.int .i64 t.line), .v (.int .i64 t.col)] : List PV) →
 ACallsZ Tryz.prog 136 [.bp a 0, .bp b 0] (pst L a m s.i d) (fun v m' => (rRight L d lhs t s).2.k = 0 ∧ ∃ oa on ok, (rRight L d lhs t s).1.arms = [] ∧ m' = pst L a (m.upd b (quB (rRight L d lhs t s).1 oa on ok)) (rRight L d lhs t s).2.i d) (ZP L a (m.del b) (rRight L d lhs t s).2)
structure PBlC (L : List Tk) (f : Nat) : Prop where
 block : ∀ (a : Nat) (m : M), a < m.nb → ∀ (s : PS), s.ok L → s.k = 0 → ∀ (d : Int), 0 ≤ d ∧ d ≤ 64 → mu L s + 3 ≤ f → ACallsZ Tryz.prog 134 [.bp a 0] (pst L a m s.i d) (RP L a m d (.ag [.sl .no ((rBlock L f d s).1.1.map Va.pv), .sl .no ((rBlock L f d s).1.2.map Qu.pv)]) (rBlock L f d s).2) (ZP L a m (rBlock L f d s).2)
 eqs : ∀ (a : Nat) (m : M), a < m.nb → ∀ (s : PS), s.ok L → s.k = 0 → ∀ (d : Int), 0 ≤ d ∧ d ≤ 64 → mu L s + 2 ≤ f → ACallsZ Tryz.prog 100 [.bp a 0] (pst L a m s.i d) (RP L a m d (.sl .no ((rEqs L f d [] s).1.map Qu.pv)) (rEqs L f d [] s).2) (ZP L a m (rEqs L f d [] s).2)
 eq : ∀ (a : Nat) (m : M), a < m.nb → ∀ (s : PS), s.ok L → s.k = 0 → ∀ (d : Int), 0 ≤ d ∧ d ≤ 64 → mu L s + 1 ≤ f → ACallsZ Tryz.prog 117 [.bp a 0] (pst L a m s.i d) (RP L a m d (rEq L f d s).1.pv ((rEq L f d s).2.want L wSemi)) (ZP L a m ((rEq L f d s).2.want L wSemi))
 arms : ∀ (a : Nat) (m : M), a < m.nb → ∀ (s : PS), s.ok L → s.k = 0 → ∀ (d : Int), 0 ≤ d ∧ d ≤ 64 → ∀ st : Bool, mu L s + 2 ≤ f → ACallsZ Tryz.prog 133 [.bp a 0, pB st] (pst L a m s.i d) (RP L a m d (.sl .no ((rArms L f d st s).1.map Am.pv)) (rArms L f d st s).2) (ZP L a m (rArms L f d st s).2)
section
variable {L : List Tk} (hL : TksOk L) {f : Nat} (IH : ∀ g, g ≤ f → PBlC L g)
include hL IH
end
end Go.Proofs.YtohgdopfjkjppaaGreatDoor

/-
 parse's reader: one equation, arms.
-/
set_option linter.unusedVariables false
set_option linter.unusedSimpArgs false
namespace Go.Proofs.YtohgdopfjkjppaaGreatDoor
open Nat renaming reduceEqDiff → jA, reduceAdd → jB, reduceMul → jC, reduceLT → jD, reduceLeDiff → jE, reduceBEq → jF, reduceBNe → jG
open Int renaming reduceLE → jH, reduceLT → jI, reduceToNat → jJ, reduceEq → jK
open Go
-- EXX: Tk.settle_pv, Tk.pure_pv, Tk.cells_pv, Tk.pv, Tk.cs, Va.settle_pv, Va.pure_pv, Va.cells_pv, Tr.settle_pv, Tr.pure_pv, Tr.cells_pv, Qu.settle_pv, Qu.pure_pv, Qu.cells_pv, Am.settle_pv, Am.pure_pv, Am.cells_pv, pst_nb, pst_nt, pst_fresh, pst_use, pst_free, pst_alive, pst_a, pst_upda, pst_ext, pst_ext2, pst_ea, pst_own, pst_own0, pst_ou, pst_ou0
set_option maxRecDepth 20000
-- TNAMES: int; uint8; int32; string; bool; []string; []api.Expr; api.Expr; api.On; []api.On; api.Var; []api.Var; api.Trans; []api.Trans; api.Equation; []api.Equation; api.Arm; []api.Arm; api.Block; *parse.reader; parse.reader; parse.stop; lex.Token; []lex.Token; api.Pos; api.Kind; api.Type
set_option linter.defProp false
section
variable {L : List Tk} (hL : TksOk L) (hR : PRightC L) {f : Nat} (IH : ∀ g, g ≤ f → PBlC L g)
include hL hR IH
end
end Go.Proofs.YtohgdopfjkjppaaGreatDoor

/-
 parse's reader: right sides.
-/
set_option linter.unusedVariables false
set_option linter.unusedSimpArgs false
namespace Go.Proofs.YtohgdopfjkjppaaGreatDoor
open Nat renaming reduceEqDiff → jA, reduceAdd → jB, reduceMul → jC, reduceLT → jD, reduceLeDiff → jE, reduceBEq → jF, reduceBNe → jG
open Int renaming reduceLE → jH, reduceLT → jI, reduceToNat → jJ, reduceEq → jK
open Go
-- EXX: Tk.settle_pv, Tk.pure_pv, Tk.cells_pv, Tk.pv, Tk.cs, Va.settle_pv, Va.pure_pv, Va.cells_pv, Tr.settle_pv, Tr.pure_pv, Tr.cells_pv, Qu.settle_pv, Qu.pure_pv, Qu.cells_pv, Am.settle_pv, Am.pure_pv, Am.cells_pv, pst_nb, pst_nt, pst_fresh, pst_use, pst_free, pst_alive, pst_a, pst_upda, pst_ext, pst_ext2, pst_ea, pst_own, pst_own0, pst_ou, pst_ou0, rp_nb, rp_a, rp_b, rp_updb, rp_ext, rp_own, rp_own0, rp_ou, rp_ou0
set_option maxRecDepth 20000
-- TNAMES: int; uint8; int32; string; bool; []string; []api.Expr; api.Expr; api.On; []api.On; api.Var; []api.Var; api.Trans; []api.Trans; api.Equation; []api.Equation; api.Arm; []api.Arm; api.Block; *parse.reader; parse.reader; parse.stop; lex.Token; []lex.Token; api.Pos; api.Kind; api.Type


section
variable {L : List Tk} {a b : Nat} {m : M} {i : Nat} {d : Int} {bs : List (Option (List PV))} {C : List PV}
theorem rp_nb : (pst L a ((m.upd b C).ext bs) i d).nb = m.nb + bs.length := by rw [pst_nb, ext_nb, upd_nb]
theorem rp_a (hA : a < m.nb) : (pst L a ((m.upd b C).ext bs) i d).get a = some [.sl .no (L.map Tk.pv), .v (.int .i64 (i : Int)), .v (.int .i64 d)] := pst_a (by rw [ext_nb, upd_nb]; omega)
theorem rp_b (hA : a < m.nb) (hB : b < m.nb) (hne : b ≠ a) : (pst L a ((m.upd b C).ext bs) i d).get b = some C := by
 unfold pst
 rw [M.get_upd, if_neg (fun h => hne h.1)]
 have : (m.upd b C).get b = some C := by rw [M.get_upd, if_pos ⟨rfl, hB⟩]
 unfold M.get M.ext at *
 rw [List.getElem?_append_left (by have := upd_nb m b C; unfold M.nb at this hB; omega)]
 exact this
theorem rp_updb (hA : a < m.nb) (hB : b < m.nb) (hne : b ≠ a) {C2 : List PV} : (pst L a ((m.upd b C).ext bs) i d).upd b C2 = pst L a ((m.upd b C2).ext bs) i d := by
 have h2 : ((m.upd b C).ext bs).upd b C2 = (m.upd b C2).ext bs := by
  rw [ext_updOld (by rw [upd_nb]; exact hB)]
  unfold M.upd
  simp only [List.set_set]
 rw [← h2]
 unfold pst M.upd
 congr 1
 simp only []
 rw [List.set_comm _ _ (fun h => hne h.symm)]
theorem rp_ext (hA : a < m.nb) (cs : List (Option (List PV))) : (pst L a ((m.upd b C).ext bs) i d).ext cs = pst L a ((m.upd b C).ext (bs ++ cs)) i d := pst_ext2 bs cs (by rw [upd_nb]; exact hA)
theorem rp_own (hA : a < m.nb) {j : Nat} : (pst L a ((m.upd b C).ext bs) i d).get (m.nb + j) = (bs[j]?).join := pst_own (upd_nb m b C) (by rw [upd_nb]; exact hA)
theorem rp_own0 (hA : a < m.nb) : (pst L a ((m.upd b C).ext bs) i d).get m.nb = (bs[0]?).join := rp_own (j := 0) hA
theorem rp_ou (hA : a < m.nb) {j : Nat} {c : List PV} : (pst L a ((m.upd b C).ext bs) i d).upd (m.nb + j) c = pst L a ((m.upd b C).ext (bs.set j (some c))) i d := pst_ou (upd_nb m b C) (by rw [upd_nb]; exact hA)
theorem rp_ou0 (hA : a < m.nb) {c : List PV} : (pst L a ((m.upd b C).ext bs) i d).upd m.nb c = pst L a ((m.upd b C).ext (bs.set 0 (some c))) i d := rp_ou (j := 0) hA
/-- Leaving, another's box written to. -/
theorem leave_rp {i' : Nat} {d' : Int} {C2 : List PV} {R : PV → M → Prop} {v : PV} (hA : a < m.nb) (hB : b < m.nb) (hp : ∀ n k, PV.withins n k C2 = true) (hv : v.settle.pure = true) (hR : R v.settle (pst L a (m.upd b C2) i' d')) : ∃ v' m', Leave (pst L a m i d) (pst L a ((m.upd b C2).ext bs) i' d') v v' m' ∧ R v' m' := by
 have e1 : pst L a ((m.upd b C2).ext bs) i' d' = (pst L a (m.upd b C2) i' d').ext bs := (pst_ext bs (by rw [upd_nb]; exact hA)).symm
 have hn : (pst L a (m.upd b C2) i' d').nb = m.nb := by rw [pst_nb, upd_nb]
 rw [e1]
 refine ⟨_, _, .gen v v.settle (pst L a (m.upd b C2) i' d') (.inr rfl) (by rw [hn, pst_nb]; exact Nat.le_refl _) (by rw [pst_nt, pst_nt]; exact Nat.le_refl _) ?_ ?_ (fun id c hc => ?_) (pure_withinC _ _ _ hv), hR⟩
 ·show ((pst L a (m.upd b C2) i' d').boxes ++ bs).take (pst L a (m.upd b C2) i' d').boxes.length = _
  simp
 ·show ((pst L a (m.upd b C2) i' d').toks).take (pst L a (m.upd b C2) i' d').toks.length = _
  simp
 ·unfold pst at hc
  rw [M.get_upd] at hc
  split at hc
  ·cases hc
   exact .inr (by simp [PV.withins, PV.within])
  ·rename_i h1
   rw [M.get_upd] at hc
   split at hc
   ·cases hc
    exact .inr (hp _ _)
   ·refine .inl ?_
    unfold pst
    rw [M.get_upd, if_neg (by rw [upd_nb] at h1; exact h1)]
    exact hc
end
section
variable {L : List Tk} {a b : Nat} {m : M} {i : Nat} {d : Int} {bs : List (Option (List PV))} {C : List PV} {l : List Ex} {v : PV} {m' : M}
end

set_option linter.defProp false
end Go.Proofs.YtohgdopfjkjppaaGreatDoor

/-
 parse's reader: nodes, programs.
-/
set_option linter.unusedVariables false
set_option linter.unusedSimpArgs false
namespace Go.Proofs.YtohgdopfjkjppaaGreatDoor
open Nat renaming reduceEqDiff → jA, reduceAdd → jB, reduceMul → jC, reduceLT → jD, reduceLeDiff → jE, reduceBEq → jF, reduceBNe → jG
open Int renaming reduceLE → jH, reduceLT → jI, reduceToNat → jJ, reduceEq → jK
open Go
-- EXX: Tk.settle_pv, Tk.pure_pv, Tk.cells_pv, Tk.pv, Tk.cs, Va.settle_pv, Va.pure_pv, Va.cells_pv, Tr.settle_pv, Tr.pure_pv, Tr.cells_pv, Qu.settle_pv, Qu.pure_pv, Qu.cells_pv, No.settle_pv, No.pure_pv, No.cells_pv, En.settle_pv, En.pure_pv, En.cells_pv, Am.settle_pv, Am.pure_pv, Am.cells_pv, pst_nb, pst_nt, pst_fresh, pst_use, pst_free, pst_alive, pst_a, pst_upda, pst_ext, pst_ext2, pst_ea, pst_own, pst_own0, pst_ou, pst_ou0
set_option maxRecDepth 20000
-- TNAMES: int; uint8; int32; string; bool; []string; []api.Expr; api.Expr; api.On; []api.On; api.Var; []api.Var; api.Trans; []api.Trans; api.Equation; []api.Equation; api.Arm; []api.Arm; api.Block; api.Node; []api.Node; api.Enum; []api.Enum; api.Program; *parse.reader; parse.reader; parse.stop; lex.Token; []lex.Token; api.Pos; api.Kind; api.Type
set_option linter.defProp false
section
variable {L : List Tk} (hL : TksOk L) (a : Nat) (m : M) (hA : a < m.nb) (s : PS) (hs : s.ok L) (k0 : s.k = 0)
include hL hA hs k0
end
end Go.Proofs.YtohgdopfjkjppaaGreatDoor

/-
 A run from a given state, cut back: a contract.
-/
set_option linter.unusedVariables false
set_option linter.unusedSimpArgs false
namespace Go.Proofs.YtohgdopfjkjppaaGreatDoor
open Go Go.RowKit

theorem ACalls.leave {P : Program} {g : FuncId} {args : List PV} {m : M} {R R2 : PV → M → Prop} (h : ACalls P g args m R) (hl : ∀ v m', R v m' → ∃ v2 m2, Leave m m' v v2 m2 ∧ R2 v2 m2) : ACalls P g args m R2 := by
 refine ⟨h.1, fun G w vs hI hlen hr => (h.2 G w vs hI hlen hr).mono ?_⟩
 rintro e w' (⟨y, v', m', G', rfl, hR, h3, h4, h5⟩ | ⟨_, _, _, _, _, hz, _⟩)
 ·obtain ⟨v2, m2, hv, hR2⟩ := hl _ _ hR
  obtain ⟨G2, g1, g2, g3⟩ := hv.sound hI h5 h4 h3
  exact .inl ⟨y, v2, m2, G2, rfl, hR2, g1, g2, g3⟩
 ·exact hz.elim
end Go.Proofs.YtohgdopfjkjppaaGreatDoor

/-
 parse's reader: read, Program, Expr.
-/
set_option linter.unusedVariables false
set_option linter.unusedSimpArgs false
namespace Go.Proofs.YtohgdopfjkjppaaGreatDoor
open Nat renaming reduceEqDiff → jA, reduceAdd → jB, reduceMul → jC, reduceLT → jD, reduceLeDiff → jE, reduceBEq → jF, reduceBNe → jG
open Int renaming reduceLE → jH, reduceLT → jI, reduceToNat → jJ, reduceEq → jK
open Go
-- EXX: Tk.settle_pv, Tk.pure_pv, Tk.cells_pv, Tk.pv, Tk.cs, Va.settle_pv, Va.pure_pv, Va.cells_pv, Tr.settle_pv, Tr.pure_pv, Tr.cells_pv, Qu.settle_pv, Qu.pure_pv, Qu.cells_pv, No.settle_pv, No.pure_pv, No.cells_pv, En.settle_pv, En.pure_pv, En.cells_pv, Am.settle_pv, Am.pure_pv, Am.cells_pv, pst_nb, pst_nt, pst_fresh, pst_use, pst_free, pst_alive, pst_a, pst_upda, pst_ext, pst_ext2, pst_ea, pst_own, pst_own0, pst_ou, pst_ou0
set_option maxRecDepth 20000
-- TNAMES: int; uint8; int32; string; bool; []string; []api.Expr; api.Expr; api.On; []api.On; api.Var; []api.Var; api.Trans; []api.Trans; api.Equation; []api.Equation; api.Arm; []api.Arm; api.Block; api.Node; []api.Node; api.Enum; []api.Enum; api.Program; error; interface {}; faults.At; *faults.At; func(*parse.reader); *parse.reader; parse.reader; parse.stop; lex.Token; []lex.Token; api.Pos; api.Kind; api.Type
set_option linter.defProp false
def J3 := And.intro @slb (And.intro @tfA (And.intro @Ex.settle_pv (And.intro @Ex.pure_pv (And.intro @Ex.cells_pv (And.intro @Ex.cs.eq_1 (And.intro @On.pv.eq_1 (And.intro @Ty.pv.eq_1 (And.intro @Va.settle_pv (And.intro @Va.pure_pv (And.intro @Va.cells_pv (And.intro @Va.cs.eq_1 (And.intro @Tk.settle_pv (And.intro @Tk.pure_pv (And.intro @Tk.cells_pv (And.intro @Tk.pv.eq_1 (And.intro @Tk.cs.eq_1 (And.intro @Tr.settle_pv (And.intro @Tr.pure_pv (And.intro @Tr.cells_pv (And.intro @Qu.settle_pv (And.intro @Qu.pure_pv (And.intro @Qu.cells_pv (And.intro @No.settle_pv (And.intro @No.pure_pv (And.intro @No.cells_pv (And.intro @En.settle_pv (And.intro @En.pure_pv (And.intro @En.cells_pv (And.intro @Am.settle_pv (And.intro @Am.pure_pv (And.intro @Am.cells_pv (And.intro @pst_nb (And.intro @pst_nt (And.intro @pst_fresh (And.intro @pst_use (And.intro @pst_free (And.intro @pst_alive (And.intro @pst_a (And.intro @pst_upda (And.intro @pst_ext (And.intro @pst_ext2 (And.intro @pst_ea (And.intro @pst_own (And.intro @pst_own0 (And.intro @pst_ou @pst_ou0)))))))))))))))))))))))))))))))))))))))))))))


def rdP (L : List Tk) (i : Nat) (d : Int) : List PV := [.sl .no (L.map Tk.pv), .v (.int .i64 (i : Int)), .v (.int .i64 d)]
theorem pst_ex1 {L : List Tk} {m : M} {e : List PV} {i : Nat} {d : Int} : pst L (m.nb + 1) (m.ext [some e, some []]) i d = m.ext [some e, some (rdP L i d)] := ext_upd (i := 1) rfl
set_option maxHeartbeats 2000000 in
theorem rclo_ret (x : PV) (m : M) : DRet Tryz.prog 30 [x] m (fun m' => m' = m) := by
 refine DRet.of (mu := []) ok_mix Tryz.func30 rfl rfl ⟨rfl, rfl, rfl⟩ (by kernel_rfl) (by decide) (by simp only [List.length_cons, List.length_nil, Tryz.ntmps30]; omega) ?_
 (repeat (first | refine aSeq fun X hX => ?_ | (first | apply aReg | apply aIf); simp -implicitDefEqProofs only [↓slp, ↓reduceIte, reduceCtorEq, jA, J3] | apply hX; clear hX X))
theorem DRet.mono {P : Program} {h : FuncId} {args : List PV} {m : M} {Q Q' : M → Prop} (hd : DRet P h args m Q) (hq : ∀ m', Q m' → Q' m') : DRet P h args m Q' := fun G w vs a b c => (hd G w vs a b c).mono (by rintro e u w' ⟨h1, h2, m', G', h3, h4, h5⟩; exact ⟨h1, h2, m', G', hq _ h3, h4, h5⟩)
theorem DPan.mono {P : Program} {h : FuncId} {args : List PV} {v : PV} {m : M} {Q Q' : M → Prop} (hd : DPan P h args v m Q) (hq : ∀ m', Q m' → Q' m') : DPan P h args v m Q' := fun G w vs y a b c d => (hd G w vs y a b c d).mono (by rintro e u w' ⟨h1, h2, m', G', h3, h4, h5⟩; exact ⟨h1, h2, m', G', hq _ h3, h4, h5⟩)
set_option maxHeartbeats 2000000 in
theorem rclo_pan (id : Nat) (x : PV) (l c k : Int) (m : M) (hg : m.get id = some [x]) : DPan Tryz.prog 30 [.bp id 0] (pStop l c k) m (fun m' => m' = m.upd id [pA l c k]) := by
 refine DPan.of (mu := []) ok_mix Tryz.func30 rfl rfl ⟨rfl, rfl, rfl⟩ (by kernel_rfl) (by decide) (by simp only [List.length_cons, List.length_nil, Tryz.ntmps30]; omega) ?_
 have hu := Tryz.underlying77
 (repeat (first | refine aSeq fun X hX => ?_ | (first | apply aReg | apply aIf); simp -implicitDefEqProofs only [↓slp, ↓reduceIte, reduceCtorEq, jA, jB, jE, jF, J3, hu, hg] | apply hX; clear hX X))
/-- What the closure that is handed to read does: a box is set, or there is a fault. -/
def CloC (L : List Tk) (k b : Nat) (C0 C1 : List PV) (r : PS) : Prop := canCall Tryz.prog k = true ∧ ∀ (mm : M) (a : Nat), b < mm.nb → mm.get b = some C0 → a < mm.nb → a ≠ b → ACallsZ Tryz.prog k [.bp a 0, .bp b 0] (pst L a mm 0 0) (fun v m' => r.k = 0 ∧ m' = pst L a (mm.upd b C1) r.i 0) (fun v m' => ∃ C, (∀ n k, PV.withins n k C = true) ∧ ZP L a (mm.upd b C) r v m')
theorem leave_up {m : M} {b : Nat} {C : List PV} {bs : List (Option (List PV))} {v : PV} {R : PV → M → Prop} (hb : b < m.nb) (hp : ∀ n k, PV.withins n k C = true) (hv : v.settle.pure = true) (hR : R v.settle (m.upd b C)) : ∃ v' m', Leave m ((m.upd b C).ext bs) v v' m' ∧ R v' m' := by
 refine ⟨_, _, .gen v v.settle (m.upd b C) (.inr rfl) (by rw [upd_nb]; exact Nat.le_refl _) (Nat.le_refl _) ?_ ?_ (fun id c hc => ?_) (pure_withinC _ _ _ hv), hR⟩
 ·show ((m.upd b C).boxes ++ bs).take (m.upd b C).boxes.length = _
  simp
 ·show ((m.upd b C).toks).take (m.upd b C).toks.length = _
  simp
 ·rw [M.get_upd] at hc
  split at hc
  ·cases hc; exact .inr (hp _ _)
  ·exact .inl hc
set_option maxHeartbeats 8000000 in
theorem readB_any (t : Str) {k l c : Int} (hk : k ≠ 0) (hW : ∀ m : M, ACalls Tryz.prog 29 [pS t] m (fun v m' => v = .tp [.sl .no [], pA l c k] ∧ m' = m)) (fv : PV) (m : M) : ACalls Tryz.prog 14 [pS t, fv] m (fun v m' => v = pA l c k ∧ m' = m) := by
 refine ACalls.enter (mu := [4, 18]) ok_mix Tryz.func14 rfl (by kernel_rfl) (by kernel_rfl) (by simp only [List.length_cons, List.length_nil, Tryz.ntmps14]; omega) ?_
 (repeat (first | refine aSeq fun X hX => ?_ | refine aReg ?_; simp -implicitDefEqProofs only [↓slp, ↓reduceIte, reduceCtorEq, jF, J3] | apply hX; clear hX X))
 refine callM (hW _) ?_
 rintro v m' ⟨rfl, rfl⟩
 simp -implicitDefEqProofs only [↓slp, ↓reduceIte, jA, jB, jE, jF, J3]
 (repeat (first | refine aSeq fun X hX => ?_ | refine aRet ?_; try simp only [slx, ↓reduceIte, jA, reduceCtorEq] | (first | apply aReg | apply aIf); simp -implicitDefEqProofs only [↓slp, ↓reduceIte, reduceCtorEq, jA, jB, jE, jF, J3] | apply hX; clear hX X))
 simp only [aPost, Tryz.results14, aRes_n, aRes_t, aRes_c, pack_one, pack_two]
 simp -implicitDefEqProofs only [↓reduceIte, jA, jB, J3]
 exact leave_ext rfl ⟨rfl, rfl⟩
set_option maxHeartbeats 8000000 in
theorem read_any (t : Str) {L : List Tk} (hW : ∀ m : M, ACalls Tryz.prog 29 [pS t] m (fun v m' => v = .tp [.sl .no (L.map Tk.pv), .v .nilIface] ∧ m' = m)) (k b : Nat) {C0 C1 : List PV} {r : PS} (hC : CloC L k b C0 C1 r) (hp1 : ∀ n k, PV.withins n k C1 = true) (m : M) (hb : b < m.nb) (hg0 : m.get b = some C0) :
    ACalls Tryz.prog 14 [pS t, .fn (.func k) [] [.bp b 0]] m (fun v m' => (r.k = 0 ∧ v = .v .nilIface ∧ m' = m.upd b C1) ∨ (r.k ≠ 0 ∧ v = pA r.l r.c r.k ∧ ∃ C, (∀ n k, PV.withins n k C = true) ∧ m' = m.upd b C)) := by
 refine ACalls.leave (R := fun v m' => (r.k = 0 ∧ v = .v .nilIface ∧ ∃ bs, m' = (m.upd b C1).ext bs) ∨ (r.k ≠ 0 ∧ v = pA r.l r.c r.k ∧ ∃ C bs, (∀ n k, PV.withins n k C = true) ∧ m' = (m.upd b C).ext bs)) ?_ (fun v m' h => ?_)
 rotate_left
 ·rcases h with ⟨h1, rfl, bs, rfl⟩ | ⟨h1, rfl, C, bs, hp, rfl⟩
  ·exact leave_up hb hp1 rfl (.inl ⟨h1, rfl, rfl⟩)
  ·exact leave_up hb hp rfl (.inr ⟨h1, rfl, C, hp, rfl⟩)
 obtain ⟨Xf, hXf⟩ : ∃ Xf : F → M → Prop, ∀ f1 m1, Xf f1 m1 = ((f1 1 = .fn (.func k) [] [.bp b 0] ∧ f1 4 = .bp m.nb 0 ∧ f1 5 = .sl .no (L.map Tk.pv)) ∧ m1 = m.ext [some [.v .nilIface]]) := ⟨_, fun _ _ => rfl⟩
 refine ACalls.enterDL (mu := [4, 18]) (l := [_, _, _]) (kps := [4]) ok_mix Tryz.func14 rfl (by kernel_rfl) (by kernel_rfl) ⟨rfl, rfl, rfl⟩ ⟨rfl, rfl, rfl, rfl, rfl⟩ ?_ (fun kv => by rw [bd_kv _ _ kv (fun _ => undef)]; kernel_rfl) ⟨by decide, by decide⟩ (by simp only [List.length_cons, List.length_nil, Tryz.ntmps14]; omega) Xf ?_ ?_
 ·intro A hA
  simp only [List.mem_cons, List.not_mem_nil, or_false] at hA
  rcases hA with rfl | rfl | rfl <;> kernel_rfl
 ·unfold aPre
  (repeat (refine aReg ?_; simp -implicitDefEqProofs only [↓slp, ↓reduceIte, reduceCtorEq, jF, J3]))
  refine callM (hW _) ?_
  rintro v m' ⟨rfl, rfl⟩
  simp -implicitDefEqProofs only [↓slp, ↓reduceIte, jA, jB, jE, jF, J3]
  (repeat (first | refine aSeq fun X hX => ?_ | refine aSkip ?_ | (first | apply aReg | apply aIf); simp -implicitDefEqProofs only [↓slp, ↓reduceIte, jA, jB, jF, J3] | apply hX; clear hX X))
  refine ⟨rfl, ?_⟩
  show Xf _ _
  rw [hXf]
  exact ⟨⟨rfl, rfl, rfl⟩, rfl⟩
 ·intro f1 m1 hx
  rw [hXf] at hx
  obtain ⟨⟨f1', f4, f5⟩, rfl⟩ := hx
  have hargs : (#[Operand.tmp 4] : Array Operand).toList.map (ev f1) = [.bp m.nb 0] := by
   simp only [List.map_cons, List.map_nil, ev_tmp, f4]
  have k2 : (F.only [4] f1) 4 = .bp m.nb 0 := by unfold F.only; rw [if_pos (by simp)]; exact f4
  have hnb1 : b ≠ m.nb + 1 := by omega
  have hcl := hC.2 (m.ext [some [.v .nilIface], some []]) (m.nb + 1) (by rw [ext_nb]; omega) (ext_old hg0) (by rw [ext_nb]; simp) (by omega)
  have hup : ∀ C, (m.ext [some [PV.v Value.nilIface], some []]).upd b C = (m.upd b C).ext [some [.v .nilIface], some []] := fun C => ext_updOld hb
  have hup2 : ∀ (C : List PV) (e : PV) (x : Option (List PV)), ((m.upd b C).ext [some [PV.v Value.nilIface], x]).upd m.nb [e] = (m.upd b C).ext [some [e], x] := fun C e x => by
   have := ext_upd0 (m := m.upd b C) (bs := [some [PV.v Value.nilIface], x]) (c := [e]) (k := m.nb) (upd_nb m b C)
   exact this
  have hx1 : ∀ (C : List PV) (i : Nat) (d : Int), pst L (m.nb + 1) ((m.upd b C).ext [some [PV.v Value.nilIface], some []]) i d = (m.upd b C).ext [some [.v .nilIface], some (rdP L i d)] := fun C i d => by
   have := ext_upd (m := m.upd b C) (bs := [some [PV.v Value.nilIface], some []]) (c := rdP L i d) (k := m.nb) (i := 1) (upd_nb m b C)
   exact this
  refine ⟨fun m2 => r.k = 0 ∧ m2 = (m.upd b C1).ext [some [.v .nilIface], some (rdP L r.i 0)], fun v m2 => r.k ≠ 0 ∧ v = pStop r.l r.c r.k ∧ ∃ C i d, (∀ n k, PV.withins n k C = true) ∧ m2 = (m.upd b C).ext [some [.v .nilIface], some (rdP L i d)], ?_, ?_, ?_⟩
  ·(repeat (first | refine aSeq fun X hX => ?_ | refine aReg ?_; simp -implicitDefEqProofs only [↓slp, ↓reduceIte, jA, jB, jE, jF, J3, f1', f4, f5]))
   rw [pst_ex1] at hcl
   refine callP hcl ?_ ?_
   ·rintro v m' ⟨C, hp, h1, rfl, i, d, rfl⟩
    rw [hup, hx1]
    exact ⟨h1, rfl, C, i, d, hp, rfl⟩
   rintro v m' ⟨h1, rfl⟩
   rw [hup, hx1]
   simp -implicitDefEqProofs only [slb, f4]
   (repeat (first | refine aSeq fun X hX => ?_ | refine aRet ?_; try simp only [slx, ↓reduceIte, jA, reduceCtorEq] | refine aReg ?_; simp -implicitDefEqProofs only [↓slp, ↓reduceIte, jA, jB, jE, J3, f4, hup2] | apply hX; clear hX X))
   exact ⟨.inr trivial, h1, trivial⟩
  ·rintro m2 ⟨hr, rfl⟩
   rw [hargs]
   refine (rclo_ret _ _).mono ?_
   rintro m3 rfl
   simp only [Tryz.results14, aRes_n, aRes_t, aRes_c]
   have hg : ((m.upd b C1).ext [some [PV.v Value.nilIface], some (rdP L r.i 0)]).get m.nb = some [.v .nilIface] := ext_get0 (upd_nb m b C1)
   simp -implicitDefEqProofs only [↓reduceIte, reduceCtorEq, jB, J3, k2, hg]
   exact .inl ⟨hr, _, rfl⟩
  ·rintro v m2 ⟨hr, rfl, C, i, d, hp, rfl⟩
   rw [hargs]
   have hg : ((m.upd b C).ext [some [PV.v Value.nilIface], some (rdP L i d)]).get m.nb = some [.v .nilIface] := ext_get0 (upd_nb m b C)
   refine (rclo_pan m.nb _ r.l r.c r.k _ hg).mono ?_
   rintro m3 rfl
   simp only [Tryz.results14, aRes_n, aRes_t, aRes_c]
   rw [hup2]
   have hg2 : ((m.upd b C).ext [some [pA r.l r.c r.k], some (rdP L i d)]).get m.nb = some [pA r.l r.c r.k] := ext_get0 (upd_nb m b C)
   simp -implicitDefEqProofs only [↓reduceIte, reduceCtorEq, jB, J3, k2, hg2]
   exact .inr ⟨hr, C, _, hp, rfl⟩
/-- A fault, or none, as an error. -/
def errW (k l c : Int) : PV := if k == 0 then .v .nilIface else pA l c k
set_option maxHeartbeats 8000000 in
theorem pExpr_bad (t : Str) {k l c : Int} (hk : k ≠ 0) (hW : ∀ m : M, ACalls Tryz.prog 29 [pS t] m (fun v m' => v = .tp [.sl .no [], pA l c k] ∧ m' = m)) (m : M) : ACalls Tryz.prog 7 [pS t] m (fun v m' => v = .tp [z0.pv, errW k l c] ∧ m' = m) := by
 have he : errW k l c = pA l c k := by unfold errW; rw [if_neg (by simpa using hk)]
 rw [he, Ex.pv_eq]
 refine ACalls.enter (mu := [2, 4]) ok_mix Tryz.func7 rfl (by kernel_rfl) (by kernel_rfl) (by simp only [List.length_cons, List.length_nil, Tryz.ntmps7]; omega) ?_
 (repeat (first | refine aSeq fun X hX => ?_ | refine aReg ?_; simp -implicitDefEqProofs only [↓slp, ↓reduceIte, reduceCtorEq, jA, jB, jF, J3] | apply hX; clear hX X))
 refine callM (readB_any t hk hW _ _) ?_
 rintro v m' ⟨rfl, rfl⟩
 simp -implicitDefEqProofs only [↓slp, ↓reduceIte, jF, J3]
 (repeat (first | refine aSeq fun X hX => ?_ | refine aRet ?_; try simp only [slx, ↓reduceIte, jA, reduceCtorEq] | (first | apply aReg | apply aIf); simp -implicitDefEqProofs only [↓slp, ↓reduceIte, reduceCtorEq, jA, jB, jE, jF, J3]; try simp only [fo] | apply hX; clear hX X))
 simp only [aPost, Tryz.results7, aRes_n, aRes_t, aRes_c, pack_one, pack_two]
 simp -implicitDefEqProofs only [↓reduceIte, jA, jB, jE, J3]
 exact leave_ext rfl ⟨rfl, rfl⟩
theorem pst_getb {L : List Tk} {a b : Nat} {m : M} {i : Nat} {d : Int} (hne : a ≠ b) : (pst L a m i d).get b = m.get b := by unfold pst; rw [M.get_upd, if_neg (fun h => hne h.1.symm)]
theorem pst_updb {L : List Tk} {a b : Nat} {m : M} {i : Nat} {d : Int} (hne : a ≠ b) (C : List PV) : (pst L a m i d).upd b C = pst L a (m.upd b C) i d := by
 unfold pst M.upd
 congr 1
 simp only []
 rw [List.set_comm _ _ hne]
theorem leave_rp0 {L : List Tk} {a b : Nat} {m : M} {i i' : Nat} {d d' : Int} {C : List PV} {R : PV → M → Prop} {v : PV} (hA : a < m.nb) (hB : b < m.nb) (hp : ∀ n k, PV.withins n k C = true) (hv : v.settle.pure = true) (hR : R v.settle (pst L a (m.upd b C) i' d')) : ∃ v' m', Leave (pst L a m i d) (pst L a (m.upd b C) i' d') v v' m' ∧ R v' m' := by
 have e : (m.upd b C).ext [] = m.upd b C := by simp [M.ext]
 have := leave_rp (i := i) (d := d) (bs := []) (R := R) hA hB hp hv hR
 rwa [e] at this
theorem upd_self {m : M} {b : Nat} {C : List PV} (h : m.get b = some C) : m.upd b C = m := by
 have := rs_0 h
 have e : (m.upd b C).ext [] = m.upd b C := by simp [M.ext]
 rw [e] at this
 exact this.symm
theorem cs_withins (e : Ex) (n k : Nat) : PV.withins n k e.cs = true := rfl
set_option maxHeartbeats 2000000 in
/-- Expr's closure. -/
theorem expC {L : List Tk} (hL : TksOk L) (b : Nat) : CloC L 15 b [.v (.int .u8 0), .v (.int .u8 0), .v (.int .i32 0), .v (.string ⟨#[]⟩), .sl .full [], .sl .full [], .v (.int .i64 0), .v (.int .i64 0)] (eX L 0 ⟨0, 0, 0, 0⟩).1.cs (if (eX L 0 ⟨0, 0, 0, 0⟩).2.k == 0 && !(((eX L 0 ⟨0, 0, 0, 0⟩).2.tk L).kind == 0) then (eX L 0 ⟨0, 0, 0, 0⟩).2.here L 2 else (eX L 0 ⟨0, 0, 0, 0⟩).2) := by
 refine ⟨by kernel_rfl, fun mm a hb hg hA hne => ?_⟩
 obtain ⟨r, hr⟩ : ∃ r, eX L 0 ⟨0, 0, 0, 0⟩ = r := ⟨_, rfl⟩
 have hp := fun (m : M) (hA : a < m.nb) => peX_any hL a m hA ⟨0, 0, 0, 0⟩ (ok0 hL) rfl 0 (by decide)
 have hra := (eX_adv hL (d := 0) (ok0 hL)).1
 rw [hr] at hp hra ⊢
 obtain ⟨q, hq⟩ : ∃ q, (if r.2.k == 0 && !((r.2.tk L).kind == 0) then r.2.here L 2 else r.2) = q := ⟨_, rfl⟩
 have e1 : Adv L r.2 q := by
  rw [← hq]
  split
  ·exact here_adv hL hra.ok 2
  ·exact .refl hra.ok
 rw [hq]
 refine ACallsZ.enterG (mu := []) (Z0 := fun v m' => ZP L a mm q v m' ∨ ZP L a (mm.upd b r.1.cs) q v m') (fun v m' hz => ?_) ok_mix Tryz.func15 rfl (by kernel_rfl) (by kernel_rfl) (by simp only [List.length_cons, List.length_nil, Tryz.ntmps15]; omega) ?_
 ·rcases hz with ⟨h1, rfl, i, d, rfl⟩ | ⟨h1, rfl, i, d, rfl⟩
  ·have e := upd_self hg
   unfold LeaveZ
   rw [show pst L a mm i d = pst L a (mm.upd b [.v (.int .u8 0), .v (.int .u8 0), .v (.int .i32 0), .v (.string ⟨#[]⟩), .sl .full [], .sl .full [], .v (.int .i64 0), .v (.int .i64 0)]) i d by rw [e]]
   exact leave_rp0 hA hb (fun _ _ => rfl) rfl ⟨_, fun _ _ => rfl, h1, rfl, i, d, rfl⟩
  ·exact leave_rp0 hA hb (cs_withins r.1) rfl ⟨_, cs_withins r.1, h1, rfl, i, d, rfl⟩
 (repeat (first | refine aSeq fun X hX => ?_ | refine aReg ?_; simp -implicitDefEqProofs only [↓slp, slb, ↓reduceIte]))
 refine callP (hp mm hA) (fun v m' hz => .inl ?_) ?_
 ·obtain ⟨h1, rfl, i, d, rfl⟩ := hz
  have := e1.st h1
  rw [this]
  exact ⟨h1, rfl, i, d, rfl⟩
 rintro v m' ⟨k1, rfl, rfl⟩
 have hgb : (pst L a mm r.2.i 0).get b = some [.v (.int .u8 0), .v (.int .u8 0), .v (.int .i32 0), .v (.string ⟨#[]⟩), .sl .full [], .sl .full [], .v (.int .i64 0), .v (.int .i64 0)] := by rw [pst_getb hne]; exact hg
 rw [show r.1.pv = .ag r.1.cs from Ex.pv_eq r.1]
 have hcs : r.1.cs = [.v (.int .u8 r.1.kind), .v (.int .u8 r.1.op), .v (.int .i32 r.1.n), .v (.string r.1.name), .sl .no (r.1.names.map pS), .sl .no (r.1.kids.map Ex.pv), .v (.int .i64 r.1.line), .v (.int .i64 r.1.col)] := rfl
 rw [hcs]
 simp -implicitDefEqProofs only [↓slp, ↓reduceIte, jA, jB, jE, J3, hgb, pst_updb hne]; try simp only [fo]
 (repeat (first | refine aReg ?_; simp -implicitDefEqProofs only [↓slp, ↓reduceIte, reduceCtorEq, J3]; try simp only [fo] | apply hX; clear hX X))
 have hnb : a < (mm.upd b r.1.cs).nb := by rw [upd_nb]; exact hA
 refine callP (pend_any hL a (mm.upd b r.1.cs) hnb r.2 hra.ok 0 k1) (fun v m' hz => .inr ?_) ?_
 ·obtain ⟨hk, hz⟩ := hz
  rw [k1, hk] at hq
  have hq2 : q = r.2.here L 2 := hq.symm
  rw [hq2]
  exact hz
 rintro v m' ⟨hk, rfl⟩
 rw [k1, hk] at hq
 have hq2 : q = r.2 := hq.symm
 rw [hq2]
 simp -implicitDefEqProofs only [J3]; try simp only [fo]
 (repeat (first | refine aSeq fun X hX => ?_ | apply aBlk | refine aSkip ?_ | (first | refine aExit ?_ | refine aRet ?_); try simp only [slx, ↓reduceIte, jA, reduceCtorEq] | (first | apply aReg | apply aIf); simp -implicitDefEqProofs only [forall_eq, ↓slp, ↓reduceIte, reduceCtorEq, jA, jB, jC, jD, jE, jF, jG, jH, jI, jJ, jK, J3]; try simp only [fo] | apply hX; clear hX X | clear hX X; apply hX; clear hX X | clear hX X; clear hX X; apply hX; clear hX X | intro hlen; unfold maxLen at hlen | apply And.intro; · first | assumption | and_intros <;> first | omega | assumption))
 simp only [aPost, Tryz.results15, aRes_n, aRes_t, aRes_c, pack_one, pack_two]
 exact leave_rp0 hA hb (cs_withins r.1) rfl ⟨k1, rfl⟩
set_option maxHeartbeats 8000000 in
theorem pExpr_any (t : Str) {L : List Tk} (hL : TksOk L) (hW : ∀ m : M, ACalls Tryz.prog 29 [pS t] m (fun v m' => v = .tp [.sl .no (L.map Tk.pv), .v .nilIface] ∧ m' = m)) (m : M) : ACalls Tryz.prog 7 [pS t] m (fun v m' => v = .tp [(rExprW L).1.pv, errW (rExprW L).2.1 (rExprW L).2.2.1 (rExprW L).2.2.2] ∧ m' = m) := by
 obtain ⟨r, hr⟩ : ∃ r, eX L 0 ⟨0, 0, 0, 0⟩ = r := ⟨_, rfl⟩
 obtain ⟨q, hq⟩ : ∃ q, (if r.2.k == 0 && !((r.2.tk L).kind == 0) then r.2.here L 2 else r.2) = q := ⟨_, rfl⟩
 have hun : rExprW L = if q.k == 0 then (r.1, 0, 0, 0) else (z0, q.k, q.l, q.c) := by rw [← hq, ← hr]; rfl
 have hc := expC hL (m.nb + 1)
 rw [hr, hq] at hc
 refine ACalls.enter (mu := [2, 4]) ok_mix Tryz.func7 rfl (by kernel_rfl) (by kernel_rfl) (by simp only [List.length_cons, List.length_nil, Tryz.ntmps7]; omega) ?_
 (repeat (first | refine aSeq fun X hX => ?_ | refine aReg ?_; simp -implicitDefEqProofs only [↓slp, ↓reduceIte, reduceCtorEq, jA, jB, jF, J3] | apply hX; clear hX X))
 refine callM (read_any t hW 15 (m.nb + 1) hc (cs_withins r.1) _ (by rw [ext_nb]; simp) (ext_get (i := 1) rfl)) ?_
 rintro v m' (⟨h1, rfl, rfl⟩ | ⟨h1, rfl, C, hp, rfl⟩)
 ·have hk : (q.k == 0) = true := by rw [h1]; rfl
  rw [hk, if_pos rfl] at hun
  rw [ext_upd (i := 1) rfl]
  simp only [List.set_cons_succ, List.set_cons_zero]
  have hcs : r.1.cs = [.v (.int .u8 r.1.kind), .v (.int .u8 r.1.op), .v (.int .i32 r.1.n), .v (.string r.1.name), .sl .no (r.1.names.map pS), .sl .no (r.1.kids.map Ex.pv), .v (.int .i64 r.1.line), .v (.int .i64 r.1.col)] := rfl
  rw [hcs]
  simp -implicitDefEqProofs only [↓slp, slb, ↓reduceIte, jF]; try simp only [fo]
  (repeat (first | refine aSeq fun X hX => ?_ | refine aSkip ?_ | refine aRet ?_ | (first | apply aReg | apply aIf); simp -implicitDefEqProofs only [↓slp, ↓reduceIte, jA, jB, jE, jF, J3]; try simp only [fo] | apply hX; clear hX X))
  simp only [aPost, Tryz.results7, aRes_n, aRes_t, aRes_c, pack_one, pack_two]
  simp -implicitDefEqProofs only [↓reduceIte, jA, jB, jE, J3]; try simp only [fo]
  exact leave_ext (by simp only [PV.settle, PV.settles, Ex.settle_pv, PV.pure, PV.pures, Ex.pure_pv, Bool.and_self]) ⟨by rw [hun]; simp only [PV.settle, PV.settles, Ex.settle_pv]; rfl, rfl⟩
 ·have hk : (q.k == 0) = false := by simpa using h1
  rw [hk, if_neg (by simp)] at hun
  have he : errW q.k q.l q.c = pA q.l q.c q.k := by unfold errW; rw [hk]; rfl
  rw [ext_upd (i := 1) rfl]
  simp only [List.set_cons_succ, List.set_cons_zero]
  simp -implicitDefEqProofs only [↓slp, slb, ↓reduceIte, jF]
  (repeat (first | refine aSeq fun X hX => ?_ | refine aRet ?_; try simp only [slx, ↓reduceIte, jA, reduceCtorEq] | (first | apply aReg | apply aIf); simp -implicitDefEqProofs only [↓slp, ↓reduceIte, reduceCtorEq, jA, jB, jE, jF, J3] | apply hX; clear hX X))
  simp only [aPost, Tryz.results7, aRes_n, aRes_t, aRes_c, pack_one, pack_two]
  simp -implicitDefEqProofs only [↓reduceIte, jA, jB, jE, J3]
  exact leave_ext rfl ⟨by rw [hun]; simp only [he]; rw [Ex.pv_eq]; rfl, rfl⟩
end Go.Proofs.YtohgdopfjkjppaaGreatDoor
