/-
  Programs as data, and how they stand in memory.
-/
import Derived.Test.YteiaedmipkcfeaaDoorAbEx
set_option linter.unusedVariables false
namespace Go.Proofs.YteiaedmipkcfeaaDoor
open Go

structure Tr where
  e : Ex
  to : Str
  resume : Bool
  line : Int
  col : Int
namespace Tr
def cs (t : Tr) : List PV := [.v (.int .u8 t.e.kind), .v (.int .u8 t.e.op), .v (.int .i32 t.e.n), .v (.string t.e.name), .sl .no (t.e.names.map pS), .sl .no (t.e.kids.map Ex.pv), .v (.int .i64 t.e.line), .v (.int .i64 t.e.col), .v (.string t.to), .v (.bool t.resume), .v (.int .i64 t.line), .v (.int .i64 t.col)]
def pv (t : Tr) : PV := .ag t.cs
end Tr
theorem Tr.cells_pv (t : Tr) : t.pv.cells = t.cs := rfl
theorem Tr.settle_pv (t : Tr) : t.pv.settle = t.pv := rfl
theorem Tr.pure_pv (t : Tr) : t.pv.pure = true := rfl

mutual
inductive Qu where
  | mk (kind : Int) (lhs : List Str) (name : Str) (args : List Ex) (has : Bool) (e : Ex) (arms : List Am) (line col : Int)
inductive Am where
  | mk (name : Str) (vars : List Va) (eqs : List Qu) (unl : List Tr) (til : List Tr) (line col : Int)
end
mutual
def Qu.pv : Qu → PV
  | .mk kind lhs name args has e arms line col => .ag [.v (.int .u8 kind), .sl .no (lhs.map pS), .v (.string name), .sl .no (args.map Ex.pv), .v (.bool has), .v (.int .u8 e.kind), .v (.int .u8 e.op), .v (.int .i32 e.n), .v (.string e.name), .sl .no (e.names.map pS), .sl .no (e.kids.map Ex.pv), .v (.int .i64 e.line), .v (.int .i64 e.col), .sl .no (Am.pvs arms), .v (.int .i64 line), .v (.int .i64 col)]
def Qu.pvs : List Qu → List PV
  | [] => []
  | q :: l => q.pv :: Qu.pvs l
def Am.pv : Am → PV
  | .mk name vars eqs unl til line col => .ag [.v (.string name), .sl .no (vars.map Va.pv), .sl .no (Qu.pvs eqs), .sl .no (unl.map Tr.pv), .sl .no (til.map Tr.pv), .v (.int .i64 line), .v (.int .i64 col)]
def Am.pvs : List Am → List PV
  | [] => []
  | a :: l => a.pv :: Am.pvs l
end
theorem Qu.pvs_eq (l : List Qu) : Qu.pvs l = l.map Qu.pv := by
  induction l with
  | nil => rfl
  | cons x l ih => simp [Qu.pvs, ih]
theorem Am.pvs_eq (l : List Am) : Am.pvs l = l.map Am.pv := by
  induction l with
  | nil => rfl
  | cons x l ih => simp [Am.pvs, ih]
namespace Qu
def kind : Qu → Int | .mk k _ _ _ _ _ _ _ _ => k
def lhs : Qu → List Str | .mk _ l _ _ _ _ _ _ _ => l
def name : Qu → Str | .mk _ _ n _ _ _ _ _ _ => n
def args : Qu → List Ex | .mk _ _ _ a _ _ _ _ _ => a
def has : Qu → Bool | .mk _ _ _ _ h _ _ _ _ => h
def e : Qu → Ex | .mk _ _ _ _ _ e _ _ _ => e
def arms : Qu → List Am | .mk _ _ _ _ _ _ a _ _ => a
def line : Qu → Int | .mk _ _ _ _ _ _ _ l _ => l
def col : Qu → Int | .mk _ _ _ _ _ _ _ _ c => c
def cs (q : Qu) : List PV := [.v (.int .u8 q.kind), .sl .no (q.lhs.map pS), .v (.string q.name), .sl .no (q.args.map Ex.pv), .v (.bool q.has), .v (.int .u8 q.e.kind), .v (.int .u8 q.e.op), .v (.int .i32 q.e.n), .v (.string q.e.name), .sl .no (q.e.names.map pS), .sl .no (q.e.kids.map Ex.pv), .v (.int .i64 q.e.line), .v (.int .i64 q.e.col), .sl .no (q.arms.map Am.pv), .v (.int .i64 q.line), .v (.int .i64 q.col)]
theorem pv_eq (q : Qu) : q.pv = .ag q.cs := by cases q; simp [Qu.pv, cs, kind, lhs, name, args, has, e, arms, line, col, Am.pvs_eq]
end Qu
theorem Qu.cells_pv (q : Qu) : q.pv.cells = q.cs := by rw [q.pv_eq]; rfl
theorem Qu.settle_pv (q : Qu) : q.pv.settle = q.pv := by rw [q.pv_eq]; rfl
theorem Qu.pure_pv (q : Qu) : q.pv.pure = true := by rw [q.pv_eq]; rfl
namespace Am
def name : Am → Str | .mk n _ _ _ _ _ _ => n
def vars : Am → List Va | .mk _ v _ _ _ _ _ => v
def eqs : Am → List Qu | .mk _ _ q _ _ _ _ => q
def unl : Am → List Tr | .mk _ _ _ u _ _ _ => u
def til : Am → List Tr | .mk _ _ _ _ u _ _ => u
def line : Am → Int | .mk _ _ _ _ _ l _ => l
def col : Am → Int | .mk _ _ _ _ _ _ c => c
def cs (a : Am) : List PV := [.v (.string a.name), .sl .no (a.vars.map Va.pv), .sl .no (a.eqs.map Qu.pv), .sl .no (a.unl.map Tr.pv), .sl .no (a.til.map Tr.pv), .v (.int .i64 a.line), .v (.int .i64 a.col)]
theorem pv_eq (a : Am) : a.pv = .ag a.cs := by cases a; simp [Am.pv, cs, name, vars, eqs, unl, til, line, col, Qu.pvs_eq]
end Am
theorem Am.cells_pv (a : Am) : a.pv.cells = a.cs := by rw [a.pv_eq]; rfl
theorem Am.settle_pv (a : Am) : a.pv.settle = a.pv := by rw [a.pv_eq]; rfl
theorem Am.pure_pv (a : Am) : a.pv.pure = true := by rw [a.pv_eq]; rfl

/-- A block; a node; a type of constructors; a program. -/
structure Bk where
  vars : List Va
  eqs : List Qu
def Bk.pv (b : Bk) : PV := .ag [.sl .no (b.vars.map Va.pv), .sl .no (b.eqs.map Qu.pv)]
structure No where
  name : Str
  ins : List Va
  outs : List Va
  b : Bk
  line : Int
  col : Int
namespace No
def cs (n : No) : List PV := [.v (.string n.name), .sl .no (n.ins.map Va.pv), .sl .no (n.outs.map Va.pv), .sl .no (n.b.vars.map Va.pv), .sl .no (n.b.eqs.map Qu.pv), .v (.int .i64 n.line), .v (.int .i64 n.col)]
def pv (n : No) : PV := .ag n.cs
end No
theorem No.cells_pv (t : No) : t.pv.cells = t.cs := rfl
theorem No.settle_pv (t : No) : t.pv.settle = t.pv := rfl
theorem No.pure_pv (t : No) : t.pv.pure = true := rfl

/-- What can be read: what is ready; all; those that have a last value. -/
structure Sc where
  ready : List Va
  all : List Va
  lasts : List Va
def Sc.pv (s : Sc) : PV := .ag [.sl .no (s.ready.map Va.pv), .sl .no (s.all.map Va.pv), .sl .no (s.lasts.map Va.pv)]
theorem Ty.ext' {a b : Ty} (h : a.eq b = true) : a = b := by
  cases a; cases b
  simp only [Ty.eq, Bool.and_eq_true, beq_iff_eq, eqS_iff] at h
  obtain ⟨rfl, rfl⟩ := h
  rfl
end Go.Proofs.YteiaedmipkcfeaaDoor
