/-
  The data of package api without addresses: expressions.
-/
import Derived.Test.YtepjjgnkhcjpcaaDoorAbFn
set_option linter.unusedVariables false
namespace Go.Proofs.YtepjjgnkhcjpcaaDoor
open Go

abbrev Str := ByteArray
abbrev pS (s : Str) : PV := .v (.string s)
abbrev pI (n : Int) : PV := .v (.int .i64 n)
abbrev pB (b : Bool) : PV := .v (.bool b)
def pSs (l : List Str) : PV := .sl .no (l.map pS)

inductive Ex where
  | mk (kind op n : Int) (name : Str) (names : List Str) (kids : List Ex) (line col : Int)
mutual
def Ex.pv : Ex → PV
  | .mk kind op n name names kids line col => .ag [.v (.int .u8 kind), .v (.int .u8 op), .v (.int .i32 n), .v (.string name), .sl .no (names.map pS), .sl .no (Ex.pvs kids), .v (.int .i64 line), .v (.int .i64 col)]
def Ex.pvs : List Ex → List PV
  | [] => []
  | e :: l => e.pv :: Ex.pvs l
end
theorem Ex.pvs_eq (l : List Ex) : Ex.pvs l = l.map Ex.pv := by
  induction l with
  | nil => rfl
  | cons e l ih => simp [Ex.pvs, ih]
namespace Ex
def kind : Ex → Int | .mk k _ _ _ _ _ _ _ => k
def op : Ex → Int | .mk _ k _ _ _ _ _ _ => k
def n : Ex → Int | .mk _ _ k _ _ _ _ _ => k
def name : Ex → Str | .mk _ _ _ k _ _ _ _ => k
def names : Ex → List Str | .mk _ _ _ _ k _ _ _ => k
def kids : Ex → List Ex | .mk _ _ _ _ _ k _ _ => k
def line : Ex → Int | .mk _ _ _ _ _ _ k _ => k
def col : Ex → Int | .mk _ _ _ _ _ _ _ k => k
/-- The cells of an expression. -/
def cs (e : Ex) : List PV := [.v (.int .u8 e.kind), .v (.int .u8 e.op), .v (.int .i32 e.n), .v (.string e.name), .sl .no (e.names.map pS), .sl .no (e.kids.map Ex.pv), .v (.int .i64 e.line), .v (.int .i64 e.col)]
theorem pv_eq (e : Ex) : e.pv = .ag e.cs := by cases e; simp [Ex.pv, cs, kind, op, n, name, names, kids, line, col, Ex.pvs_eq]
end Ex
theorem Ex.foldcs (e : Ex) : [PV.v (.int .u8 e.kind), PV.v (.int .u8 e.op), PV.v (.int .i32 e.n), PV.v (.string e.name), PV.sl .no (e.names.map pS), PV.sl .no (e.kids.map Ex.pv), PV.v (.int .i64 e.line), PV.v (.int .i64 e.col)] = e.cs := rfl
theorem Ex.fold (e : Ex) : PV.ag e.cs = e.pv := e.pv_eq.symm
theorem Ex.cells_pv (e : Ex) : e.pv.cells = e.cs := by rw [e.pv_eq]; rfl
theorem Ex.settle_pv (e : Ex) : e.pv.settle = e.pv := by rw [e.pv_eq]; rfl
theorem Ex.ok_pv (e : Ex) : e.pv.ok = true := by rw [e.pv_eq]; rfl
theorem Ex.pure_pv (e : Ex) : e.pv.pure = true := by rw [e.pv_eq]; rfl

/-! ### Strings alike, lists of them -/
def eqS (a b : Str) : Bool := a.toList == b.toList
theorem eqS_iff {a b : Str} : eqS a b = true ↔ a = b := by
  unfold eqS
  constructor
  · intro h
    have h := eq_of_beq h
    rw [ByteArray.toList_eq, ByteArray.toList_eq] at h
    exact ByteArray.ext (Array.ext' h)
  · rintro rfl; simp
/-- Lists alike, place by place. -/
def sameL {α : Type} (R : α → α → Bool) : List α → List α → Bool
  | [], [] => true
  | a :: l, b :: r => R a b && sameL R l r
  | _, _ => false
theorem sameL_len {α : Type} {R : α → α → Bool} {l r : List α} (h : sameL R l r = true) : l.length = r.length := by
  induction l generalizing r with
  | nil => cases r <;> simp [sameL] at h ⊢
  | cons a l ih => cases r <;> simp [sameL] at h ⊢; exact ih h.2
theorem sameL_ne {α : Type} {R : α → α → Bool} {l r : List α} (h : l.length ≠ r.length) : sameL R l r = false := by
  cases q : sameL R l r with
  | false => rfl
  | true => exact absurd (sameL_len q) h
theorem sameL_drop {α : Type} {R : α → α → Bool} {l r : List α} {k : Nat} (h : k < l.length) (h' : k < r.length) : sameL R (l.drop k) (r.drop k) = (R l[k] r[k] && sameL R (l.drop (k + 1)) (r.drop (k + 1))) := by
  rw [List.drop_eq_getElem_cons h, List.drop_eq_getElem_cons h', sameL]
theorem sameL_iff {α : Type} {R : α → α → Bool} (hR : ∀ a b, R a b = true ↔ a = b) {l r : List α} : sameL R l r = true ↔ l = r := by
  induction l generalizing r with
  | nil => cases r <;> simp [sameL]
  | cons a l ih => cases r <;> simp [sameL, ih, hR]
theorem sameL_end {α : Type} {R : α → α → Bool} {l r : List α} (h : l.length = r.length) : sameL R (l.drop l.length) (r.drop l.length) = true := by
  rw [List.drop_length, h, List.drop_length]; rfl
abbrev sameSs := sameL eqS

structure On where
  ctor : Str
  var : Str
def On.pv (o : On) : PV := .ag [.v (.string o.ctor), .v (.string o.var)]
def On.eq (a b : On) : Bool := eqS a.ctor b.ctor && eqS a.var b.var
structure Ty where
  kind : Int
  name : Str
def Ty.pv (t : Ty) : PV := .ag [.v (.int .u8 t.kind), .v (.string t.name)]
def Ty.eq (a b : Ty) : Bool := a.kind == b.kind && eqS a.name b.name

mutual
def Ex.same : Ex → Ex → Bool
  | .mk k o n nm ns ks _ _, .mk k' o' n' nm' ns' ks' _ _ => k == k' && o == o' && n == n' && eqS nm nm' && sameSs ns ns' && Ex.sames ks ks'
def Ex.sames : List Ex → List Ex → Bool
  | [], [] => true
  | a :: l, b :: r => a.same b && Ex.sames l r
  | _, _ => false
end
theorem Ex.sames_eq (l r : List Ex) : Ex.sames l r = sameL Ex.same l r := by
  induction l generalizing r with
  | nil => cases r <;> simp [Ex.sames, sameL]
  | cons a l ih => cases r <;> simp [Ex.sames, sameL, ih]
theorem Ex.same_eq (a b : Ex) : a.same b = (a.kind == b.kind && a.op == b.op && a.n == b.n && eqS a.name b.name && sameSs a.names b.names && sameL Ex.same a.kids b.kids) := by
  cases a; cases b; simp [Ex.same, Ex.kind, Ex.op, Ex.n, Ex.name, Ex.names, Ex.kids, Ex.sames_eq]
mutual
def Ex.size : Ex → Nat
  | .mk _ _ _ _ _ kids _ _ => 1 + Ex.sizes kids
def Ex.sizes : List Ex → Nat
  | [] => 0
  | k :: l => k.size + Ex.sizes l
end
theorem Ex.size_eq (e : Ex) : e.size = 1 + Ex.sizes e.kids := by cases e; rfl
theorem sizes_take (kids : List Ex) (k : Nat) (h : k < kids.length) : Ex.sizes (kids.take (k + 1)) = Ex.sizes (kids.take k) + kids[k].size := by
  induction kids generalizing k with
  | nil => simp at h
  | cons a l ih =>
    cases k with
    | zero => simp [Ex.sizes]
    | succ k =>
      have h1 : k < l.length := by simpa using h
      have := ih k h1
      simp only [List.take_succ_cons, Ex.sizes, List.getElem_cons_succ] at this ⊢
      omega
theorem sizes_take_le (kids : List Ex) (k : Nat) : Ex.sizes (kids.take k) ≤ Ex.sizes kids := by
  induction kids generalizing k with
  | nil => simp [Ex.sizes]
  | cons a l ih =>
    cases k with
    | zero => simp [Ex.sizes]
    | succ k =>
      have := ih k
      simp only [List.take_succ_cons, Ex.sizes]
      omega
theorem size_kid (kids : List Ex) (k : Nat) (h : k < kids.length) : kids[k].size ≤ Ex.sizes kids := by
  have := sizes_take kids k h
  have := sizes_take_le kids (k + 1)
  omega
theorem Ex.ind {motive : Ex → Prop} (h : ∀ e : Ex, (∀ (k : Nat) (hk : k < e.kids.length), motive e.kids[k]) → motive e) (e : Ex) : motive e := by
  suffices ∀ n (e : Ex), e.size ≤ n → motive e from this e.size e (Nat.le_refl _)
  intro n
  induction n with
  | zero => intro e he; rw [e.size_eq] at he; omega
  | succ n ih => exact fun e he => h e fun k hk => ih _ (by have := size_kid e.kids k hk; rw [e.size_eq] at he; omega)
theorem Ex.same_refl (e : Ex) : e.same e = true := by
  refine Ex.ind (motive := fun e => e.same e = true) (fun e ih => ?_) e
  rw [Ex.same_eq]
  have h1 : sameSs e.names e.names = true := (sameL_iff (fun a b => eqS_iff)).2 rfl
  have h2 : sameL Ex.same e.kids e.kids = true := by
    generalize e.kids = l at ih
    induction l with
    | nil => rfl
    | cons a l ihl =>
      have h0 := ih 0 (by simp)
      simp only [List.getElem_cons_zero] at h0
      simp only [sameL, h0, Bool.true_and]
      exact ihl (fun k hk => ih (k + 1) (by simpa using hk))
  simp [h1, h2, eqS_iff.2]

structure Va where
  name : Str
  t : Ty
  clock : List On
  last : Bool
  first : Ex
  line : Int
  col : Int
namespace Va
def cs (v : Va) : List PV := [.v (.string v.name), .v (.int .u8 v.t.kind), .v (.string v.t.name), .sl .no (v.clock.map On.pv), .v (.bool v.last), .v (.int .u8 v.first.kind), .v (.int .u8 v.first.op), .v (.int .i32 v.first.n), .v (.string v.first.name), .sl .no (v.first.names.map pS), .sl .no (v.first.kids.map Ex.pv), .v (.int .i64 v.first.line), .v (.int .i64 v.first.col), .v (.int .i64 v.line), .v (.int .i64 v.col)]
def pv (v : Va) : PV := .ag v.cs
theorem cells_pv (v : Va) : v.pv.cells = v.cs := rfl
theorem settle_pv (v : Va) : v.pv.settle = v.pv := rfl
theorem pure_pv (v : Va) : v.pv.pure = true := rfl
def same (a b : Va) : Bool := eqS a.name b.name && a.t.eq b.t && sameL On.eq a.clock b.clock && (a.last == b.last) && a.first.same b.first
end Va
end Go.Proofs.YtepjjgnkhcjpcaaDoor
