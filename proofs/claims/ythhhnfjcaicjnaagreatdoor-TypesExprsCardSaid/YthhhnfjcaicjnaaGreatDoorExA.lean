/-
 Texts that belong together: AbEx, AbPr.
-/
-- halved
import Derived.Test.YthhhnfjcaicjnaaGreatDoorWpA
set_option linter.unusedVariables false
namespace Go.Proofs.YthhhnfjcaicjnaaGreatDoor
open Go

abbrev Str := ByteArray
abbrev pS (s : Str) : PV := .v (.string s)
abbrev pI (n : Int) : PV := .v (.int .i64 n)
abbrev pB (b : Bool) : PV := .v (.bool b)
inductive Ex where
 | mk (kind op n : Int) (name : Str) (names : List Str) (kids : List Ex) (line col : Int)
mutual
def Ex.pv : Ex → PV
 | .mk kind op n name names kids line col => .ag [.v (.int .u8 kind), .v (.int .u8 op), .v (.int .i32 n), .v (.string name), .sl .no (names.map pS), .sl .no (Ex.pvs kids), .v (.int .i64 line), .v (.int .i64 col)]
def Ex.pvs : List Ex → List PV
 | [] => []
 | e :: l => e.pv :: Ex.pvs l
end
theorem Ex.pvs_eq (l : List Ex) : Ex.pvs l = l.map Ex.pv := by
 induction l with
 | nil => rfl
 | cons e l ih => simp [Ex.pvs, ih]
namespace Ex
def kind : Ex → Int | .mk k _ _ _ _ _ _ _ => k
def op : Ex → Int | .mk _ k _ _ _ _ _ _ => k
def n : Ex → Int | .mk _ _ k _ _ _ _ _ => k
def name : Ex → Str | .mk _ _ _ k _ _ _ _ => k
def names : Ex → List Str | .mk _ _ _ _ k _ _ _ => k
def kids : Ex → List Ex | .mk _ _ _ _ _ k _ _ => k
def line : Ex → Int | .mk _ _ _ _ _ _ k _ => k
def col : Ex → Int | .mk _ _ _ _ _ _ _ k => k
def cs (e : Ex) : List PV := [.v (.int .u8 e.kind), .v (.int .u8 e.op), .v (.int .i32 e.n), .v (.string e.name), .sl .no (e.names.map pS), .sl .no (e.kids.map Ex.pv), .v (.int .i64 e.line), .v (.int .i64 e.col)]
theorem pv_eq (e : Ex) : e.pv = .ag e.cs := by cases e; simp [Ex.pv, cs, kind, op, n, name, names, kids, line, col, Ex.pvs_eq]
end Ex
theorem Ex.foldcs (e : Ex) : [PV.v (.int .u8 e.kind), PV.v (.int .u8 e.op), PV.v (.int .i32 e.n), PV.v (.string e.name), PV.sl .no (e.names.map pS), PV.sl .no (e.kids.map Ex.pv), PV.v (.int .i64 e.line), PV.v (.int .i64 e.col)] = e.cs := rfl
theorem Ex.fold (e : Ex) : PV.ag e.cs = e.pv := e.pv_eq.symm
theorem Ex.cells_pv (e : Ex) : e.pv.cells = e.cs := by rw [e.pv_eq]; rfl
theorem Ex.settle_pv (e : Ex) : e.pv.settle = e.pv := by rw [e.pv_eq]; rfl
theorem Ex.ok_pv (e : Ex) : e.pv.ok = true := by rw [e.pv_eq]; rfl
theorem Ex.pure_pv (e : Ex) : e.pv.pure = true := by rw [e.pv_eq]; rfl

def eqS (a b : Str) : Bool := a.toList == b.toList
theorem eqS_iff {a b : Str} : eqS a b = true ↔ a = b := by
 unfold eqS
 constructor
 ·intro h
  have h := eq_of_beq h
  rw [ByteArray.toList_eq, ByteArray.toList_eq] at h
  exact ByteArray.ext (Array.ext' h)
 ·rintro rfl; simp
def sameL {α : Type} (R : α → α → Bool) : List α → List α → Bool
 | [], [] => true
 | a :: l, b :: r => R a b && sameL R l r
 | _, _ => false
theorem sameL_len {α : Type} {R : α → α → Bool} {l r : List α} (h : sameL R l r = true) : l.length = r.length := by
 induction l generalizing r with
 | nil => cases r <;> simp [sameL] at h ⊢
 | cons a l ih => cases r <;> simp [sameL] at h ⊢; exact ih h.2
theorem sameL_iff {α : Type} {R : α → α → Bool} (hR : ∀ a b, R a b = true ↔ a = b) {l r : List α} : sameL R l r = true ↔ l = r := by
 induction l generalizing r with
 | nil => cases r <;> simp [sameL]
 | cons a l ih => cases r <;> simp [sameL, ih, hR]
abbrev sameSs := sameL eqS

structure On where
 ctor : Str
 var : Str
def On.pv (o : On) : PV := .ag [.v (.string o.ctor), .v (.string o.var)]
def On.eq (a b : On) : Bool := eqS a.ctor b.ctor && eqS a.var b.var
structure Ty where
 kind : Int
 name : Str
def Ty.pv (t : Ty) : PV := .ag [.v (.int .u8 t.kind), .v (.string t.name)]
def Ty.eq (a b : Ty) : Bool := a.kind == b.kind && eqS a.name b.name

mutual
def Ex.same : Ex → Ex → Bool
 | .mk k o n nm ns ks _ _, .mk k' o' n' nm' ns' ks' _ _ => k == k' && o == o' && n == n' && eqS nm nm' && sameSs ns ns' && Ex.sames ks ks'
def Ex.sames : List Ex → List Ex → Bool
 | [], [] => true
 | a :: l, b :: r => a.same b && Ex.sames l r
 | _, _ => false
end
theorem Ex.sames_eq (l r : List Ex) : Ex.sames l r = sameL Ex.same l r := by
 induction l generalizing r with
 | nil => cases r <;> simp [Ex.sames, sameL]
 | cons a l ih => cases r <;> simp [Ex.sames, sameL, ih]
theorem Ex.same_eq (a b : Ex) : a.same b = (a.kind == b.kind && a.op == b.op && a.n == b.n && eqS a.name b.name && sameSs a.names b.names && sameL Ex.same a.kids b.kids) := by
 cases a; cases b; simp [Ex.same, Ex.kind, Ex.op, Ex.n, Ex.name, Ex.names, Ex.kids, Ex.sames_eq]
mutual
def Ex.size : Ex → Nat
 | .mk _ _ _ _ _ kids _ _ => 1 + Ex.sizes kids
def Ex.sizes : List Ex → Nat
 | [] => 0
 | k :: l => k.size + Ex.sizes l
end
theorem Ex.size_eq (e : Ex) : e.size = 1 + Ex.sizes e.kids := by cases e; rfl
theorem sizes_take (kids : List Ex) (k : Nat) (h : k < kids.length) : Ex.sizes (kids.take (k + 1)) = Ex.sizes (kids.take k) + kids[k].size := by
 induction kids generalizing k with
 | nil => simp at h
 | cons a l ih =>
  cases k with
  | zero => simp [Ex.sizes]
  | succ k =>
   have h1 : k < l.length := by simpa using h
   have := ih k h1
   simp only [List.take_succ_cons, Ex.sizes, List.getElem_cons_succ] at this ⊢
   omega
theorem sizes_take_le (kids : List Ex) (k : Nat) : Ex.sizes (kids.take k) ≤ Ex.sizes kids := by
 induction kids generalizing k with
 | nil => simp [Ex.sizes]
 | cons a l ih =>
  cases k with
  | zero => simp [Ex.sizes]
  | succ k =>
   have := ih k
   simp only [List.take_succ_cons, Ex.sizes]
   omega
theorem size_kid (kids : List Ex) (k : Nat) (h : k < kids.length) : kids[k].size ≤ Ex.sizes kids := by
 have := sizes_take kids k h
 have := sizes_take_le kids (k + 1)
 omega
theorem Ex.ind {motive : Ex → Prop} (h : ∀ e : Ex, (∀ (k : Nat) (hk : k < e.kids.length), motive e.kids[k]) → motive e) (e : Ex) : motive e := by
 suffices ∀ n (e : Ex), e.size ≤ n → motive e from this e.size e (Nat.le_refl _)
 intro n
 induction n with
 | zero => intro e he; rw [e.size_eq] at he; omega
 | succ n ih => exact fun e he => h e fun k hk => ih _ (by have := size_kid e.kids k hk; rw [e.size_eq] at he; omega)
structure Va where
 name : Str
 t : Ty
 clock : List On
 last : Bool
 first : Ex
 line : Int
 col : Int
namespace Va
def cs (v : Va) : List PV := [.v (.string v.name), .v (.int .u8 v.t.kind), .v (.string v.t.name), .sl .no (v.clock.map On.pv), .v (.bool v.last), .v (.int .u8 v.first.kind), .v (.int .u8 v.first.op), .v (.int .i32 v.first.n), .v (.string v.first.name), .sl .no (v.first.names.map pS), .sl .no (v.first.kids.map Ex.pv), .v (.int .i64 v.first.line), .v (.int .i64 v.first.col), .v (.int .i64 v.line), .v (.int .i64 v.col)]
def pv (v : Va) : PV := .ag v.cs
theorem cells_pv (v : Va) : v.pv.cells = v.cs := rfl
theorem settle_pv (v : Va) : v.pv.settle = v.pv := rfl
theorem pure_pv (v : Va) : v.pv.pure = true := rfl
def same (a b : Va) : Bool := eqS a.name b.name && a.t.eq b.t && sameL On.eq a.clock b.clock && (a.last == b.last) && a.first.same b.first
end Va

set_option linter.unusedVariables false
open Go

structure Tr where
 e : Ex
 to : Str
 resume : Bool
 line : Int
 col : Int
namespace Tr
def cs (t : Tr) : List PV := [.v (.int .u8 t.e.kind), .v (.int .u8 t.e.op), .v (.int .i32 t.e.n), .v (.string t.e.name), .sl .no (t.e.names.map pS), .sl .no (t.e.kids.map Ex.pv), .v (.int .i64 t.e.line), .v (.int .i64 t.e.col), .v (.string t.to), .v (.bool t.resume), .v (.int .i64 t.line), .v (.int .i64 t.col)]
def pv (t : Tr) : PV := .ag t.cs
end Tr
theorem Tr.cells_pv (t : Tr) : t.pv.cells = t.cs := rfl
theorem Tr.settle_pv (t : Tr) : t.pv.settle = t.pv := rfl
theorem Tr.pure_pv (t : Tr) : t.pv.pure = true := rfl

mutual
inductive Qu where
 | mk (kind : Int) (lhs : List Str) (name : Str) (args : List Ex) (has : Bool) (e : Ex) (arms : List Am) (line col : Int)
inductive Am where
 | mk (name : Str) (vars : List Va) (eqs : List Qu) (unl : List Tr) (til : List Tr) (line col : Int)
end
mutual
def Qu.pv : Qu → PV
 | .mk kind lhs name args has e arms line col => .ag [.v (.int .u8 kind), .sl .no (lhs.map pS), .v (.string name), .sl .no (args.map Ex.pv), .v (.bool has), .v (.int .u8 e.kind), .v (.int .u8 e.op), .v (.int .i32 e.n), .v (.string e.name), .sl .no (e.names.map pS), .sl .no (e.kids.map Ex.pv), .v (.int .i64 e.line), .v (.int .i64 e.col), .sl .no (Am.pvs arms), .v (.int .i64 line), .v (.int .i64 col)]
def Qu.pvs : List Qu → List PV
 | [] => []
 | q :: l => q.pv :: Qu.pvs l
def Am.pv : Am → PV
 | .mk name vars eqs unl til line col => .ag [.v (.string name), .sl .no (vars.map Va.pv), .sl .no (Qu.pvs eqs), .sl .no (unl.map Tr.pv), .sl .no (til.map Tr.pv), .v (.int .i64 line), .v (.int .i64 col)]
def Am.pvs : List Am → List PV
 | [] => []
 | a :: l => a.pv :: Am.pvs l
end
theorem Qu.pvs_eq (l : List Qu) : Qu.pvs l = l.map Qu.pv := by
 induction l with
 | nil => rfl
 | cons x l ih => simp [Qu.pvs, ih]
theorem Am.pvs_eq (l : List Am) : Am.pvs l = l.map Am.pv := by
 induction l with
 | nil => rfl
 | cons x l ih => simp [Am.pvs, ih]
namespace Qu
def kind : Qu → Int | .mk k _ _ _ _ _ _ _ _ => k
def lhs : Qu → List Str | .mk _ l _ _ _ _ _ _ _ => l
def name : Qu → Str | .mk _ _ n _ _ _ _ _ _ => n
def args : Qu → List Ex | .mk _ _ _ a _ _ _ _ _ => a
def has : Qu → Bool | .mk _ _ _ _ h _ _ _ _ => h
def e : Qu → Ex | .mk _ _ _ _ _ e _ _ _ => e
def arms : Qu → List Am | .mk _ _ _ _ _ _ a _ _ => a
def line : Qu → Int | .mk _ _ _ _ _ _ _ l _ => l
def col : Qu → Int | .mk _ _ _ _ _ _ _ _ c => c
def cs (q : Qu) : List PV := [.v (.int .u8 q.kind), .sl .no (q.lhs.map pS), .v (.string q.name), .sl .no (q.args.map Ex.pv), .v (.bool q.has), .v (.int .u8 q.e.kind), .v (.int .u8 q.e.op), .v (.int .i32 q.e.n), .v (.string q.e.name), .sl .no (q.e.names.map pS), .sl .no (q.e.kids.map Ex.pv), .v (.int .i64 q.e.line), .v (.int .i64 q.e.col), .sl .no (q.arms.map Am.pv), .v (.int .i64 q.line), .v (.int .i64 q.col)]
theorem pv_eq (q : Qu) : q.pv = .ag q.cs := by cases q; simp [Qu.pv, cs, kind, lhs, name, args, has, e, arms, line, col, Am.pvs_eq]
end Qu
theorem Qu.cells_pv (q : Qu) : q.pv.cells = q.cs := by rw [q.pv_eq]; rfl
theorem Qu.settle_pv (q : Qu) : q.pv.settle = q.pv := by rw [q.pv_eq]; rfl
theorem Qu.pure_pv (q : Qu) : q.pv.pure = true := by rw [q.pv_eq]; rfl
namespace Am
def name : Am → Str | .mk n _ _ _ _ _ _ => n
def vars : Am → List Va | .mk _ v _ _ _ _ _ => v
def eqs : Am → List Qu | .mk _ _ q _ _ _ _ => q
def unl : Am → List Tr | .mk _ _ _ u _ _ _ => u
def til : Am → List Tr | .mk _ _ _ _ u _ _ => u
def line : Am → Int | .mk _ _ _ _ _ l _ => l
def col : Am → Int | .mk _ _ _ _ _ _ c => c
def cs (a : Am) : List PV := [.v (.string a.name), .sl .no (a.vars.map Va.pv), .sl .no (a.eqs.map Qu.pv), .sl .no (a.unl.map Tr.pv), .sl .no (a.til.map Tr.pv), .v (.int .i64 a.line), .v (.int .i64 a.col)]
theorem pv_eq (a : Am) : a.pv = .ag a.cs := by cases a; simp [Am.pv, cs, name, vars, eqs, unl, til, line, col, Qu.pvs_eq]
end Am
theorem Am.cells_pv (a : Am) : a.pv.cells = a.cs := by rw [a.pv_eq]; rfl
theorem Am.settle_pv (a : Am) : a.pv.settle = a.pv := by rw [a.pv_eq]; rfl
theorem Am.pure_pv (a : Am) : a.pv.pure = true := by rw [a.pv_eq]; rfl

structure Bk where
 vars : List Va
 eqs : List Qu
def Bk.pv (b : Bk) : PV := .ag [.sl .no (b.vars.map Va.pv), .sl .no (b.eqs.map Qu.pv)]
structure No where
 name : Str
 ins : List Va
 outs : List Va
 b : Bk
 line : Int
 col : Int
namespace No
def cs (n : No) : List PV := [.v (.string n.name), .sl .no (n.ins.map Va.pv), .sl .no (n.outs.map Va.pv), .sl .no (n.b.vars.map Va.pv), .sl .no (n.b.eqs.map Qu.pv), .v (.int .i64 n.line), .v (.int .i64 n.col)]
def pv (n : No) : PV := .ag n.cs
end No
theorem No.cells_pv (t : No) : t.pv.cells = t.cs := rfl
theorem No.settle_pv (t : No) : t.pv.settle = t.pv := rfl
theorem No.pure_pv (t : No) : t.pv.pure = true := rfl

structure Sc where
 ready : List Va
 all : List Va
 lasts : List Va
def Sc.pv (s : Sc) : PV := .ag [.sl .no (s.ready.map Va.pv), .sl .no (s.all.map Va.pv), .sl .no (s.lasts.map Va.pv)]
theorem Ty.ext' {a b : Ty} (h : a.eq b = true) : a = b := by
 cases a; cases b
 simp only [Ty.eq, Bool.and_eq_true, beq_iff_eq, eqS_iff] at h
 obtain ⟨rfl, rfl⟩ := h
 rfl
set_option linter.defProp false in
def fo := And.intro @Ex.fold (And.intro @Ex.foldcs (fun v : Va => (Va.pv.eq_1 v).symm))
end Go.Proofs.YthhhnfjcaicjnaaGreatDoor
