/-
  The expressions of package clite, without addresses.
-/
import Derived.Test.YtepjjgnkhcjpcaaDoorAbEx
set_option linter.unusedVariables false
namespace Go.Proofs.YtepjjgnkhcjpcaaDoor
open Go

inductive CE where
  | mk (kind op n : Int) (name : Str) (kids : List CE)
mutual
def CE.pv : CE → PV
  | .mk kind op n name kids => .ag [.v (.int .u8 kind), .v (.int .u8 op), .v (.int .i32 n), .v (.string name), .sl .no (CE.pvs kids)]
def CE.pvs : List CE → List PV
  | [] => []
  | e :: l => e.pv :: CE.pvs l
end
theorem CE.pvs_eq (l : List CE) : CE.pvs l = l.map CE.pv := by
  induction l with
  | nil => rfl
  | cons e l ih => simp [CE.pvs, ih]
namespace CE
def kind : CE → Int | .mk k _ _ _ _ => k
def op : CE → Int | .mk _ k _ _ _ => k
def n : CE → Int | .mk _ _ k _ _ => k
def name : CE → Str | .mk _ _ _ k _ => k
def kids : CE → List CE | .mk _ _ _ _ k => k
/-- The cells of an expression. -/
def cs (e : CE) : List PV := [.v (.int .u8 e.kind), .v (.int .u8 e.op), .v (.int .i32 e.n), .v (.string e.name), .sl .no (e.kids.map CE.pv)]
theorem pv_eq (e : CE) : e.pv = .ag e.cs := by cases e; simp [CE.pv, cs, kind, op, n, name, kids, CE.pvs_eq]
end CE
theorem CE.foldcs (e : CE) : [PV.v (.int .u8 e.kind), PV.v (.int .u8 e.op), PV.v (.int .i32 e.n), PV.v (.string e.name), PV.sl .no (e.kids.map CE.pv)] = e.cs := rfl
theorem CE.fold (e : CE) : PV.ag e.cs = e.pv := e.pv_eq.symm
theorem CE.cells_pv (e : CE) : e.pv.cells = e.cs := by rw [e.pv_eq]; rfl
theorem CE.settle_pv (e : CE) : e.pv.settle = e.pv := by rw [e.pv_eq]; rfl
theorem CE.ok_pv (e : CE) : e.pv.ok = true := by rw [e.pv_eq]; rfl
theorem CE.pure_pv (e : CE) : e.pv.pure = true := by rw [e.pv_eq]; rfl
mutual
def CE.same : CE → CE → Bool
  | .mk k o n nm ks, .mk k' o' n' nm' ks' => k == k' && o == o' && n == n' && eqS nm nm' && CE.sames ks ks'
def CE.sames : List CE → List CE → Bool
  | [], [] => true
  | a :: l, b :: r => a.same b && CE.sames l r
  | _, _ => false
end
theorem CE.sames_eq (l r : List CE) : CE.sames l r = sameL CE.same l r := by
  induction l generalizing r with
  | nil => cases r <;> simp [CE.sames, sameL]
  | cons a l ih => cases r <;> simp [CE.sames, sameL, ih]
theorem CE.same_eq (a b : CE) : a.same b = (a.kind == b.kind && a.op == b.op && a.n == b.n && eqS a.name b.name && sameL CE.same a.kids b.kids) := by
  cases a; cases b; simp [CE.same, CE.kind, CE.op, CE.n, CE.name, CE.kids, CE.sames_eq]
mutual
def CE.size : CE → Nat
  | .mk _ _ _ _ kids => 1 + CE.sizes kids
def CE.sizes : List CE → Nat
  | [] => 0
  | k :: l => k.size + CE.sizes l
end
theorem CE.size_eq (e : CE) : e.size = 1 + CE.sizes e.kids := by cases e; rfl
theorem CE.sizes_take (kids : List CE) (k : Nat) (h : k < kids.length) : CE.sizes (kids.take (k + 1)) = CE.sizes (kids.take k) + kids[k].size := by
  induction kids generalizing k with
  | nil => simp at h
  | cons a l ih =>
    cases k with
    | zero => simp [CE.sizes]
    | succ k =>
      have h1 : k < l.length := by simpa using h
      have := ih k h1
      simp only [List.take_succ_cons, CE.sizes, List.getElem_cons_succ] at this ⊢
      omega
theorem CE.sizes_take_le (kids : List CE) (k : Nat) : CE.sizes (kids.take k) ≤ CE.sizes kids := by
  induction kids generalizing k with
  | nil => simp [CE.sizes]
  | cons a l ih =>
    cases k with
    | zero => simp [CE.sizes]
    | succ k =>
      have := ih k
      simp only [List.take_succ_cons, CE.sizes]
      omega
theorem CE.size_kid (kids : List CE) (k : Nat) (h : k < kids.length) : kids[k].size ≤ CE.sizes kids := by
  have := CE.sizes_take kids k h
  have := CE.sizes_take_le kids (k + 1)
  omega
theorem CE.ind {motive : CE → Prop} (h : ∀ e : CE, (∀ (k : Nat) (hk : k < e.kids.length), motive e.kids[k]) → motive e) (e : CE) : motive e := by
  suffices ∀ n (e : CE), e.size ≤ n → motive e from this e.size e (Nat.le_refl _)
  intro n
  induction n with
  | zero => intro e he; rw [e.size_eq] at he; omega
  | succ n ih => exact fun e he => h e fun k hk => ih _ (by have := CE.size_kid e.kids k hk; rw [e.size_eq] at he; omega)
theorem CE.same_refl (e : CE) : e.same e = true := by
  refine CE.ind (motive := fun e => e.same e = true) (fun e ih => ?_) e
  rw [CE.same_eq]
  have h2 : sameL CE.same e.kids e.kids = true := by
    generalize e.kids = l at ih
    induction l with
    | nil => rfl
    | cons a l ihl =>
      have h0 := ih 0 (by simp)
      simp only [List.getElem_cons_zero] at h0
      simp only [sameL, h0, Bool.true_and]
      exact ihl (fun k hk => ih (k + 1) (by simpa using hk))
  simp [h2, eqS_iff.2]

end Go.Proofs.YtepjjgnkhcjpcaaDoor
