/-
 Texts that belong together: AbAll, TeAl.
-/
-- halved
import Derived.Test.YthhhnfjcaicjnaaGreatDoorAbDrw
set_option linter.unusedVariables false
set_option linter.unusedSimpArgs false
namespace Go.Proofs.YthhhnfjcaicjnaaGreatDoor
open Go

section
variable {P : Program} {mu : List Nat} {ops : Array Oper} {K : F → M → Prop}
def qOk (mu : List Nat) (ops : Array Oper) (todo : List Nat) (i : Nat) : Bool := match ops[i]? with
 | none => false
 | some oi => oi.guard.isNone && !isEff mu oi && Region.noSelect ops && todo.contains i && todo.all fun j => j == i || (match ops[j]? with
  | none => false
  | some oj => (edgesOf oj).contains i || oi.apart ops oj)
theorem aAll_q0 {i : Nat} {oi : Oper} {v : PV} (hoi : ops[i]? = some oi) (hg : oi.guard = none) (hsel : ∀ (j : Nat) (o : Oper) cs b, ops[j]? = some o → o.op ≠ .select cs b) : ∀ (fuel : Nat) (todo : List Nat) {f : F} {m : M}, i ∈ todo → (todo.filter (· != i)).length ≤ fuel → (∀ j ∈ todo, j ≠ i → ∀ oj, ops[j]? = some oj → i ∈ edgesOf oj ∨ oi.apart ops oj = true) →
    aQuiet P mu oi f (fun _ => True) v → aAll P mu ops K fuel (todo.filter (· != i)) (F.put f oi.dst v) m → aAll P mu ops K (fuel + 1) todo f m := by
 intro fuel
 induction fuel with
 | zero =>
  intro todo f m hit hlen hap hq h j hj
  by_cases hji : j = i
  ·subst hji
   simp only [hoi]
   exact .inr ⟨hg, aQuiet_op (S := fun _ => True) trivial hq h⟩
  ·exfalso
   have : j ∈ todo.filter (· != i) := by simp [hj, hji]
   have := List.length_pos_of_mem this
   omega
 | succ n ih =>
  intro todo f m hit hlen hap hq h j hj
  by_cases hji : j = i
  ·subst hji
   simp only [hoi]
   exact .inr ⟨hg, aQuiet_op (S := fun _ => True) trivial hq h⟩
  ·have hjt : j ∈ todo.filter (· != i) := by simp [hj, hji]
   have hj2 := h j hjt
   cases hoj : ops[j]? with
   | none => simp only [hoj] at hj2
   | some oj =>
    simp only [hoj] at hj2 ⊢
    rcases hj2 with ⟨k, hk, hkt⟩ | ⟨hgj, hx⟩
    ·exact .inl ⟨k, hk, (List.mem_filter.1 hkt).1⟩
    ·rcases hap j hj hji oj hoj with h1 | h1
     ·exact .inl ⟨i, h1, hit⟩
     ·obtain ⟨_, hdd, _⟩ := Oper.apart_spec h1
      refine .inr ⟨hgj, aOp_mono ((apart_op (fun cs b => hsel j oj cs b hoj) h1 f v m _).1 hx) fun u m' h2 => ?_⟩
      refine ih (todo.filter (· != j)) (by simp [hit, Ne.symm hji]) ?_ (fun k hk => hap k (List.mem_filter.1 hk).1) ((apart_quiet (fun cs b => hsel i oi cs b hoi) (apart_symm h1) f u).2 hq) ?_
      ·have e : (todo.filter (· != j)).filter (· != i) = (todo.filter (· != i)).filter (· != j) := by
         rw [List.filter_filter, List.filter_filter]
         congr 1
         funext x
         rw [Bool.and_comm]
       rw [e]
       have hp : ((todo.filter (· != i)).filter (· != j)).length < (todo.filter (· != i)).length := List.length_filter_lt_length_iff_exists.2 ⟨j, hjt, by simp⟩
       omega
      ·have e : (todo.filter (· != j)).filter (· != i) = (todo.filter (· != i)).filter (· != j) := by
         rw [List.filter_filter, List.filter_filter]
         congr 1
         funext x
         rw [Bool.and_comm]
       rw [e, F.put_comm f v u (fun d hd => hdd d hd)] at *
       exact h2
theorem aAll_q (i : Nat) {todo t : List Nat} {fuel : Nat} {oi : Oper} {f : F} {m : M} (hok : qOk mu ops todo i = true) (ht : todo.filter (· != i) = t) (hl : t.length = fuel) (ho : ops[i]? = some oi) (h : aQv P mu oi f m (fun _ => True) fun v => aAll P mu ops K fuel t (F.put f oi.dst v) m) : aAll P mu ops K (fuel + 1) todo f m := by
 unfold qOk at hok
 rw [ho] at hok
 simp only [Bool.and_eq_true, Option.isNone_iff_eq_none, Bool.not_eq_true', List.contains_iff_mem, List.all_eq_true, Bool.or_eq_true, beq_iff_eq] at hok
 obtain ⟨⟨⟨⟨hg, he⟩, hs⟩, hit⟩, hap⟩ := hok
 unfold aQv at h
 split at h
 ·rename_i p v m' hst
  obtain ⟨h1, h2, h3⟩ := h
  refine aAll_q0 ho hg (fun j o cs b hj => Region.noSelect_spec hs j o cs b hj) fuel todo hit (by rw [ht, hl]; exact Nat.le_refl _) (fun j hj hji oj hoj => ?_) (fun m2 _ => ⟨p, h1 m2 trivial, h2⟩) (by rw [ht]; exact h3)
  rcases hap j hj with h | h
  ·exact absurd h hji
  ·rw [hoj] at h
   simpa only [Bool.or_eq_true, List.contains_iff_mem] using h
 ·exact h.elim
end

def rdy (ops : Array Oper) (todo : List Nat) : List Nat := todo.filter fun i => match ops[i]? with
 | some o => (edgesOf o).all fun k => !todo.contains k
 | none => true
theorem aAll_s {P : Program} {mu : List Nat} {ops : Array Oper} {K : F → M → Prop} {fuel : Nat} {todo r : List Nat} {f : F} {m : M} (hr : rdy ops todo = r)
    (h : ∀ i ∈ r, ∃ o t, ops[i]? = some o ∧ todo.filter (· != i) = t ∧ o.guard = none ∧ aOp P mu noZ o f m fun v m' => aAll P mu ops K fuel t (F.put f o.dst v) m') : aAll P mu ops K (fuel + 1) todo f m := by
 intro i hi
 by_cases hir : i ∈ r
 ·obtain ⟨o, t, h1, rfl, h3, h4⟩ := h i hir
  simp only [h1]
  exact .inr ⟨h3, h4⟩
 ·rw [← hr] at hir
  unfold rdy at hir
  rw [List.mem_filter] at hir
  cases ho : ops[i]? with
  | none => rw [ho] at hir; exact absurd ⟨hi, rfl⟩ hir
  | some o =>
   rw [ho] at hir
   refine .inl ?_
   have h5 : ¬ ((edgesOf o).all fun k => !todo.contains k) = true := fun h => hir ⟨hi, h⟩
   simp only [List.all_eq_true, Bool.not_eq_true', Classical.not_forall] at h5
   obtain ⟨k, hk, h6⟩ := h5
   exact ⟨k, hk, by simpa using h6⟩
theorem aAll_n {P : Program} {mu : List Nat} {ops : Array Oper} {K : F → M → Prop} {fuel : Nat} {todo : List Nat} {f : F} {m : M} (r : List (Nat × List Nat)) (hr : rdy ops todo = r.map Prod.fst) (ht : (r.all fun x => todo.filter (· != x.1) == x.2) = true)
    (h : ∀ x ∈ r, ∃ o, ops[x.1]? = some o ∧ o.guard = none ∧ aOp P mu noZ o f m fun v m' => aAll P mu ops K fuel x.2 (F.put f o.dst v) m') : aAll P mu ops K (fuel + 1) todo f m :=
 aAll_s hr fun i hi => by
  obtain ⟨x, hx, rfl⟩ := List.mem_map.1 hi
  obtain ⟨o, h1, h2, h3⟩ := h x hx
  have := List.all_eq_true.1 ht x hx
  exact ⟨o, x.2, h1, by simpa using this, h2, h3⟩
theorem aDrwA {P : Program} {mu : List Nat} {Z : PV → M → Prop} {K : Exit → F → M → Prop} {id : Nat} {l : List Oper} {f : F} {m : M} (n : Nat) (hn : l.length = n) (hok : lexOkC mu l.toArray 0 = true) (h : aAll P mu l.toArray (K .normal) n (List.range n) f m) : aCode P mu Z (.region id l.toArray true) K f m :=
 aDrwC 0 (fun _ => True) hok trivial (by subst hn; rw [List.range_eq_range'] at h; exact h)
end Go.Proofs.YthhhnfjcaicjnaaGreatDoor
