/-
  Layer 1: its functions as contracts.
-/
import Derived.Test.YtofnlkogpljmmaaDoorAbKit
import Derived.Test.YtofnlkogpljmmaaDoorAbEx
import Derived.Test.YtofnlkogpljmmaaDoorAbCut
import Derived.Test.YtofnlkogpljmmaaDoorAbClo
import Derived.Test.YtofnlkogpljmmaaDoorAbIs2
import Derived.Test.YtofnlkogpljmmaaDoorAbAs3
set_option linter.unusedVariables false
set_option linter.unusedSimpArgs false
namespace Go.Proofs.YtofnlkogpljmmaaDoor
open Go
-- TNAMES: int; uint8; string; bool; error; api.Kind; api.Pos; faults.At; *faults.At; [13]string; []error

/-- Slots that stay boxes. -/
def mus (g : Nat) : List Nat := match g with
  | 12 => [2, 3]
  | 17 => [3]
  | 35 => [5]
  | 39 => [12]
  | _ => []
def hook1 : CallR := asHookK (asHook isHook2)
theorem hook1_ok : CallOk Tryd.prog hook1 := asHookK_ok (asHook_ok isHook2_ok)
theorem awake_run (m : M) : ACalls Tryd.prog 8 [] m (fun v m' => v = .v (.bool true) ∧ m' = m) := ACalls.ranD (mus := mus) (hook := hook1) (k := 300) ok_mix hook1_ok (by kernel_rfl) m ⟨rfl, rfl⟩

/-- A kind, as an error. -/
abbrev pK (k : Int) : PV := .ifc 26 (.v (.int .i64 k))
/-- An At, as an error. -/
abbrev pA (l c : Int) (name : Str) (named : Bool) (e : PV) : PV := .ifc 35 (.ep [.v (.int .i64 l), .v (.int .i64 c), .v (.string name), .v (.bool named), e])
abbrev pN : PV := .v .nilIface
abbrev pP (l c : Int) : PV := .ag [.v (.int .i64 l), .v (.int .i64 c)]

theorem where_at (l c : Int) (e : PV) (he : e.pure = true) (name : Str) (m : M) : ACalls Tryd.prog 12 [pA l c name false e] m (fun v m' => v = pP l c ∧ m' = m) :=
  ACalls.ranP (mus := mus) (hook := hook1) (k := 60) ok_mix hook1_ok (by kernel_rfl) (fun x hx => by simp at hx; subst hx; rfl) rfl m ⟨rfl, rfl⟩
theorem where_kd (k : Int) (m : M) : ACalls Tryd.prog 12 [pK k] m (fun v m' => v = pP 0 0 ∧ m' = m) :=
  ACalls.ranP (mus := mus) (hook := hook1) (k := 60) ok_mix hook1_ok (by kernel_rfl) (fun x hx => by simp at hx; subst hx; rfl) rfl m ⟨rfl, rfl⟩
theorem where_in (k : Int) (name : Str) (l c : Int) (m : M) : ACalls Tryd.prog 12 [pA l c name true (pK k)] m (fun v m' => v = pP 0 0 ∧ m' = m) :=
  ACalls.ranP (mus := mus) (hook := hook1) (k := 60) ok_mix hook1_ok (by kernel_rfl) (fun x hx => by simp at hx; subst hx; rfl) rfl m ⟨rfl, rfl⟩
end Go.Proofs.YtofnlkogpljmmaaDoor
