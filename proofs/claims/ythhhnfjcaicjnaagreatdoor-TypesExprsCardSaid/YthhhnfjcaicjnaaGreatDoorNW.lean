/-
 Texts that belong together: TpN, TpW.
-/
-- halved
import Derived.Test.YthhhnfjcaicjnaaGreatDoorExA
namespace Go.Proofs.YthhhnfjcaicjnaaGreatDoor
open Go
structure En where
 name : Str
 ctors : List Str
 line : Int
 col : Int
def En.cs (e : En) : List PV := [.v (.string e.name), .sl .no (e.ctors.map pS), .v (.int .i64 e.line), .v (.int .i64 e.col)]
def En.pv (e : En) : PV := .ag e.cs
theorem En.cells_pv (e : En) : e.pv.cells = e.cs := rfl
theorem En.settle_pv (e : En) : e.pv.settle = e.pv := rfl
theorem En.pure_pv (e : En) : e.pv.pure = true := rfl

set_option linter.unusedVariables false
abbrev WbT := List Va → List Qu → Nat
def wtA (wb : WbT) (a : Am) : Nat := 1 + a.unl.length + a.til.length + wb a.vars a.eqs
def wtQ (wb : WbT) (q : Qu) : Nat := 1 + q.lhs.length + q.args.length + (q.arms.map (wtA wb)).sum
def wtB (wb : WbT) : WbT := fun V Q => V.length + (Q.map (wtQ wb)).sum
def wtF : Nat → WbT
 | 0 => wtB (fun _ _ => 0)
 | d + 1 => wtB (wtF d)
theorem sum_mem {α : Type} (f : α → Nat) : ∀ {l : List α} {a : α}, a ∈ l → f a ≤ (l.map f).sum
 | [], a, h => by cases h
 | b :: l, a, h => by
  rw [List.map_cons, List.sum_cons]
  rcases List.mem_cons.1 h with rfl | h
  ·omega
  ·have := sum_mem f h; omega
theorem sum_take {α : Type} (f : α → Nat) (l : List α) (k : Nat) : ((l.take k).map f).sum ≤ (l.map f).sum := by
 conv => rhs; rw [← List.take_append_drop k l, List.map_append, List.sum_append]
 omega
theorem sum_takeS {α : Type} (f : α → Nat) (l : List α) (k : Nat) (h : k < l.length) : ((l.take k).map f).sum + f l[k] ≤ (l.map f).sum := by
 have := sum_take f l (k + 1)
 rw [List.take_succ_eq_append_getElem h, List.map_append, List.sum_append] at this
 simpa using this
theorem sum_len {α : Type} (f : α → Nat) (h : ∀ a, 1 ≤ f a) : ∀ (l : List α), l.length ≤ (l.map f).sum
 | [] => Nat.zero_le _
 | a :: l => by
  rw [List.map_cons, List.sum_cons, List.length_cons]
  have := sum_len f h l
  have := h a
  omega
theorem wtA_pos (wb : WbT) (a : Am) : 1 ≤ wtA wb a := by unfold wtA; omega
theorem wtQ_pos (wb : WbT) (q : Qu) : 1 ≤ wtQ wb q := by unfold wtQ; omega
theorem wt_arm {wb : WbT} {q : Qu} {a : Am} (h : a ∈ q.arms) : wtA wb a ≤ wtQ wb q := by
 have := sum_mem (wtA wb) h
 unfold wtQ; omega
theorem wt_eq {wb : WbT} {V : List Va} {Q : List Qu} {q : Qu} (h : q ∈ Q) : wtQ wb q ≤ wtB wb V Q := by
 have := sum_mem (wtQ wb) h
 unfold wtB; omega
theorem wt_blk {wb : WbT} {q : Qu} {a : Am} (h : a ∈ q.arms) : wb a.vars a.eqs ≤ wtQ wb q := by
 have := wt_arm (wb := wb) h
 unfold wtA at this; omega
theorem wt_arms (wb : WbT) (q : Qu) : q.arms.length ≤ wtQ wb q := by
 have := sum_len (wtA wb) (wtA_pos wb) q.arms
 unfold wtQ; omega
theorem wt_eqs (wb : WbT) (V : List Va) (Q : List Qu) : V.length + Q.length ≤ wtB wb V Q := by
 have := sum_len (wtQ wb) (wtQ_pos wb) Q
 unfold wtB; omega
end Go.Proofs.YthhhnfjcaicjnaaGreatDoor
