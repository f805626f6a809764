/-
 Texts that belong together: AbOpen, AbLaw, AbLaid, AbInvB.
-/
-- halved
import Derived.Test.YthhhnfjcaicjnaaGreatDoorWpA
import Derived.Deep.Slices
import Derived.ChangeArms
import Derived.HandedShaped
import Derived.Shelf.Vars
import Derived.ProofKit
import Derived.OpenShut
import Derived.Carry
import Derived.LaidLaws
import Derived.LaidHandle
import Derived.RowKitTokens
import Derived.ChangeVars
import Derived.ChangeSame
import Derived.JoinedOf
import Derived.Stop.Joined
import Derived.Test.YthhhnfjcaicjnaaGreatDoorExA
import Derived.Test.YthhhnfjcaicjnaaGreatDoorRows
set_option linter.unusedVariables false
set_option linter.unusedSimpArgs false
namespace Go.Proofs.YthhhnfjcaicjnaaGreatDoor
open Go Go.RowKit

def M0 : M := ⟨[], []⟩
def G0 (w : World) : Ghost := ⟨w.heap.size, 0, fun _ => 0, 0, fun _ => ⟨0, 0, 0, 0⟩, fun _ _ => False, fun _ => false⟩
theorem inv0 (w : World) (hl : ∀ q ∈ laidC, laidAt w q ∧ q.1 < w.heap.size) : Inv (G0 w) M0 w := by
 have hg : ∀ id, M0.get id = none := fun id => by simp [M0, M.get]
 have ha : ∀ t s, ¬ M0.alive t s := fun t s => by simp [M0, M.alive]
 refine ⟨rfl, rfl, Nat.le_refl _, fun id c h => ?_, fun id c h => ?_, fun id id' c c' h => ?_, fun t s h => absurd h (ha t s), fun t t' s s' h => absurd h (ha t s), fun b o h => h.elim, hl⟩
 all_goals (rw [hg] at h; cases h)

theorem law_of {P : Program} {g : FuncId} {args : List PV} {w : World} {vs : List Value} {v : PV} {y : Value} (h : ACalls P g args M0 (fun v' m' => v' = v)) (hl : args.length = vs.length) (hr : ∀ j (h1 : j < args.length) (h2 : j < vs.length), Rep (G0 w) w args[j] vs[j])
    (hv : ∀ G w u, Rep G w v u → u = y) (hlaid : ∀ q ∈ laidC, laidAt w q ∧ q.1 < w.heap.size) : Calls P g vs.toArray w fun e w' => e = .returned y ∧ Below w.heap.size w w' :=
 (h.run (G0 w) w vs (inv0 w hlaid) hl hr).mono fun e w' hh => by
  obtain ⟨u, v', m', G', h1, h2, h3, h4, h5⟩ := hh.resolve_right (fun ⟨_, _, _, _, _, h, _⟩ => h)
  subst h2
  exact ⟨by rw [h1, hv _ _ _ h3], h5.below⟩

def TyLs (R : TypeId → List PV → Prop) : List TypeId → List PV → Prop
 | [], pcs => pcs = []
 | t :: ts, pcs => ∃ p q, pcs = p ++ q ∧ R t p ∧ TyLs R ts q
def aggT (P : Program) (t : TypeId) : Bool := match P.underlying t with
 | some (.struct _) => true
 | _ => false
def TyCs (P : Program) : Nat → TypeId → List PV → Prop
 | 0, _, _ => False
 | n + 1, t, pcs => match P.underlying t with
  | some .bool => ∃ b, pcs = [.v (.bool b)]
  | some (.int k) => ∃ i, pcs = [.v (.int k i)] ∧ (Lit.int k i).wf = true
  | some .string => ∃ s, pcs = [.v (.string s)] ∧ s.size ≤ maxLen
  | some (.slice e) => ∃ xs, pcs = [.sl .no xs] ∧ xs.length ≤ maxLen ∧ ∀ x ∈ xs, TyCs P n e x.cells ∧ (if aggT P e then x = .ag x.cells else x.cells = [x])
  | some (.struct fs) => TyLs (TyCs P n) (fs.toList.map (·.type)) pcs
  | _ => False
def tileB (P : Program) : Nat → List Field → Option Nat
 | k, [] => some k
 | k, f :: fs => if f.offset == k then tileB P (k + P.cellsOf f.type) fs else none
def closedT (P : Program) (L : List TypeId) : Bool :=
 L.all fun t => match P.underlying t with
  | some .bool | some (.int _) | some .string => P.cellsOf t == 1
  | some (.slice e) => P.cellsOf t == 1 && (L.contains e && (P.cellsOf e != 0 && (aggT P e || P.cellsOf e == 1)))
  | some (.struct fs) => (fs.toList.all fun f => L.contains f.type) && tileB P 0 fs.toList == some (P.cellsOf t)
  | _ => false

theorem exists_list {α : Type} {R : Nat → α → Prop} : ∀ (n : Nat), (∀ i, i < n → ∃ x, R i x) → ∃ l : List α, l.length = n ∧ ∀ i (h : i < l.length), R i l[i]
 | 0, _ => ⟨[], rfl, fun i h => by simp at h⟩
 | n + 1, h => by
  obtain ⟨l, h1, h2⟩ := exists_list n (fun i hi => h i (by omega))
  obtain ⟨x, hx⟩ := h n (by omega)
  refine ⟨l ++ [x], by simp [h1], fun i hi => ?_⟩
  by_cases hl : i < l.length
  ·rw [List.getElem_append_left hl]; exact h2 i hl
  ·have : i = n := by simp at hi; omega
   subst this
   rw [List.getElem_append_right (by omega)]
   simpa using hx

section
variable {H : Type} {enc : TypeId × Value → H} {P : Program} {w : World} {base : Nat} {spare : Nat → Bool} {held : Bool}

theorem settled0 {b o : Nat} {u : Value} (h : w.cell? ⟨b, o, none⟩ = some u) : (G0 w).settled b o := .inl (World.block_lt_of_cell? w _ h)

theorem trod_open (hsp : spare = fun _ => true) (L : List TypeId) (hL : closedT P L = true) : ∀ (fuel : Nat) (t : TypeId) (cs : List Value) (x : DataW H × List MemPlace), t ∈ L → DataW.trod enc P w base spare held fuel t cs = some x →
    ∃ pcs, RL (G0 w) w pcs cs ∧ TyCs P fuel t pcs ∧ PV.pures pcs = true ∧ cs.length = P.cellsOf t ∧ pcs.all PV.one = true := by
 intro fuel
 induction fuel with
 | zero => intro t cs x _ h; simp [DataW.trod] at h
 | succ n ih =>
  intro t cs x ht h
  have hc := List.all_eq_true.1 hL t ht
  have one : ∀ (u : Value) (p : PV), Rep (G0 w) w p u → u.oneCell' = true → RL (G0 w) w [p] [u] := fun u p hp h1 => ⟨rfl, fun j a b => by
   obtain rfl : j = 0 := by simp at a; omega
   exact hp, fun v hv => by simp at hv; subst hv; exact h1⟩
  cases hu : P.underlying t with
  | none => simp [hu] at hc
  | some td =>
   simp only [hu] at hc
   cases td <;> simp only [Bool.false_eq_true] at hc
   case bool =>
    obtain ⟨b, rfl, rfl⟩ := DataW.trod_bool hu h
    exact ⟨[.v (.bool b)], one _ _ (.v rfl) rfl, by simp [TyCs, hu], rfl, by have := hc; simp at this; simp [this], rfl⟩
   case int k =>
    obtain ⟨i, rfl, rfl, hw⟩ := DataW.trod_int hu h
    exact ⟨[.v (.int k i)], one _ _ (.v rfl) rfl, by simp [TyCs, hu, hw], rfl, by have := hc; simp at this; simp [this], rfl⟩
   case string =>
    obtain ⟨s, rfl, rfl, hw⟩ := DataW.trod_string hu h
    exact ⟨[.v (.string s)], one _ _ (.v rfl) rfl, by simp [TyCs, hu, hw], rfl, by have := hc; simp at this; simp [this], rfl⟩
   case slice e =>
    simp only [Bool.and_eq_true, beq_iff_eq, List.contains_eq_mem, decide_eq_true_eq, bne_iff_ne, ne_eq, Bool.or_eq_true] at hc
    obtain ⟨hct, heL, hce, hagg⟩ := hc
    rcases DataW.trod_slice hu h with ⟨rfl, _⟩ | ⟨a, len, cap, elems, rest, n', hn', rfl, _, hb, hlc, hcm, hel, hre, hrs, _⟩
    ·exact ⟨[.sl .no []], one _ _ (.snil _ _ (fun t h => by cases h)) rfl, by simp [TyCs, hu], rfl, by simpa using hct.symm, rfl⟩
    ·obtain rfl : n' = n := by omega
     by_cases hc0 : cap = 0
     ·subst hc0
      have hl0 : len = 0 := by omega
      subst hl0
      exact ⟨[.sl .no []], one _ _ (.snil _ _ (fun t h => by cases h)) rfl, by simp [TyCs, hu], rfl, by simpa using hct.symm, rfl⟩
     ·
      have hspot : a.spot = none := by
       have key : ∀ (z : Option (List Value)) (y : DataW H × List MemPlace), z = w.cells? base (a.add (0 * P.cellsOf e)) (P.cellsOf e) → z.bind (DataW.trod enc P w base spare held n' e) = some y → a.spot = none := fun z y hz hy => by
        cases z with
        | none => simp at hy
        | some cs' =>
         obtain ⟨_, hl', hat⟩ := World.cells?_some hz.symm
         have := hat 0 (by omega)
         rw [List.getElem?_eq_getElem (by omega)] at this
         have := World.cell?_spot this
         simpa [Addr.add] using this
       by_cases hl0 : 0 < len
       ·have h0 := hre 0 hl0
        rw [List.getElem?_eq_getElem (by omega)] at h0
        exact key _ _ rfl h0
       ·obtain ⟨hr1, hr2⟩ := hrs (by rw [hsp])
        have h0 := hr2 0 (by omega)
        rw [List.getElem?_eq_getElem (by omega)] at h0
        rw [show len + 0 = 0 by omega] at h0
        exact key _ _ rfl h0
      obtain ⟨b, off, sp⟩ := a
      simp only at hspot
      subst hspot
      let sz := P.cellsOf e
      obtain ⟨xs, hxl, hxs⟩ := exists_list (R := fun i (x : PV) => ∃ cs', (∀ j, j < sz → w.cell? ⟨b, off + (i * sz + j), none⟩ = cs'[j]?) ∧ cs'.length = sz ∧ RL (G0 w) w x.cells cs' ∧ TyCs P n' e x.cells ∧ x.ok = true ∧ (if aggT P e then x = .ag x.cells else x.cells = [x])) len (fun i hi => by
       have h0 := hre i hi
       rw [List.getElem?_eq_getElem (by omega)] at h0
       cases hz : w.cells? base (Addr.add ⟨b, off, none⟩ (i * P.cellsOf e)) (P.cellsOf e) with
       | none => simp [hz] at h0
       | some cs' =>
        rw [hz] at h0
        obtain ⟨_, hl', hat⟩ := World.cells?_some hz
        obtain ⟨pcs, q1, q2, q3, q4, q5⟩ := ih e cs' _ heL h0
        have hcells : ∀ j, j < sz → w.cell? ⟨b, off + (i * sz + j), none⟩ = cs'[j]? := fun j hj => by
         have := hat j hj
         rwa [Addr.add_lit, Addr.add_lit, Nat.add_assoc] at this
        by_cases hag : aggT P e = true
        ·refine ⟨.ag pcs, cs', hcells, hl', q1, q2, ?_, ?_⟩
         ·simp only [PV.ok, PV.pure, PV.cells, q3, q5, Bool.and_self]
         ·rw [if_pos hag]; rfl
        ·have hz1 : P.cellsOf e = 1 := hagg.resolve_left hag
         obtain ⟨p, rfl⟩ := List.length_eq_one_iff.1 (q1.len.trans (hl'.trans hz1))
         have hpo : p.one = true := by simpa using q5
         have hpc : p.cells = [p] := by cases p <;> first | rfl | simp [PV.one] at hpo
         refine ⟨p, cs', hcells, hl', by rw [hpc]; exact q1, by rw [hpc]; exact q2, ?_, ?_⟩
         ·simp only [PV.ok, hpc, q5, Bool.and_true]; simpa [PV.pures] using q3
         ·rw [if_neg hag]; exact hpc)
      have hsz0 : 0 < sz := Nat.pos_of_ne_zero hce
      refine ⟨[.sl .no xs], ?_, ?_, rfl, by simpa using hct.symm, rfl⟩
      ·refine one _ _ ?_ rfl
       rw [← hxl]
       refine .sl .no xs b off cap sz (fun k => (w.cell? ⟨b, off + k, none⟩).getD undef) (fun i hi => ?_) (fun k hk => ?_) (fun i hi => ?_) (fun i hi j hj => ?_) (by omega) hcm (fun h => by cases h) (fun t h => by cases h)
       ·obtain ⟨cs', g1, g2, g3, g4, g5, g6⟩ := hxs i hi
        rw [g3.len, g2]
       ·have hi : k / sz < xs.length := Nat.div_lt_of_lt_mul (by rw [Nat.mul_comm]; exact hk)
        obtain ⟨cs', g1, g2, g3, g4, g5, g6⟩ := hxs (k / sz) hi
        have hj : k % sz < sz := Nat.mod_lt _ hsz0
        have := g1 (k % sz) hj
        rw [show k / sz * sz + k % sz = k by rw [Nat.mul_comm]; exact Nat.div_add_mod k sz, List.getElem?_eq_getElem (by omega)] at this
        refine ⟨by rw [this]; rfl, settled0 this⟩
       ·obtain ⟨cs', g1, g2, g3, g4, g5, g6⟩ := hxs i hi
        exact g5
       ·obtain ⟨cs', g1, g2, g3, g4, g5, g6⟩ := hxs i hi
        have hj' : j < cs'.length := by rw [← g3.len]; exact hj
        have := g1 j (by omega)
        rw [List.getElem?_eq_getElem hj'] at this
        simp only [this, Option.getD_some]
        exact g3.rep j hj hj'
      ·simp only [TyCs, hu]
       refine ⟨xs, rfl, by omega, fun x hx => ?_⟩
       obtain ⟨i, hi, rfl⟩ := List.mem_iff_getElem.1 hx
       obtain ⟨cs', g1, g2, g3, g4, g5, g6⟩ := hxs i hi
       exact ⟨g4, g6⟩
   case struct fs =>
    simp only [Bool.and_eq_true, beq_iff_eq, List.all_eq_true, List.contains_eq_mem, decide_eq_true_eq] at hc
    obtain ⟨hfL, htile⟩ := hc
    obtain ⟨ys, n', hn', _, hcl, hyl, hf⟩ := DataW.trod_struct hu h
    obtain rfl : n' = n := by omega
    have hff : ∀ f ∈ fs.toList, ∃ y, DataW.trod enc P w base spare held n' f.type ((cs.drop f.offset).take (P.cellsOf f.type)) = some y := fun f hm => by
     obtain ⟨i, hi, rfl⟩ := List.mem_iff_getElem.1 hm
     have hi' : i < fs.size := by simpa using hi
     have := hf i fs[i] (Array.getElem?_eq_getElem hi')
     rw [List.getElem?_eq_getElem (by omega)] at this
     exact ⟨_, by simpa using this⟩
    have key : ∀ (l : List Field) (k : Nat), tileB P k l = some (P.cellsOf t) → (∀ f ∈ l, f.type ∈ L) → (∀ f ∈ l, ∃ y, DataW.trod enc P w base spare held n' f.type ((cs.drop f.offset).take (P.cellsOf f.type)) = some y) →
        ∃ pcs, RL (G0 w) w pcs (cs.drop k) ∧ TyLs (TyCs P n') (l.map (·.type)) pcs ∧ PV.pures pcs = true ∧ pcs.all PV.one = true := by
     intro l
     induction l with
     | nil =>
      intro k hk _ _
      simp only [tileB, Option.some.injEq] at hk
      refine ⟨[], ?_, rfl, rfl, rfl⟩
      rw [List.drop_eq_nil_of_le (by omega)]
      exact RL.nil
     | cons f l ihl =>
      intro k hk hm hy
      simp only [tileB] at hk
      by_cases ho : (f.offset == k) = true
      ·rw [if_pos ho] at hk
       have ho' : f.offset = k := by simpa using ho
       obtain ⟨y, hy0⟩ := hy f (by simp)
       obtain ⟨p, q1, q2, q3, q4, q5⟩ := ih f.type _ y (hm f (by simp)) hy0
       obtain ⟨q, r1, r2, r3, r4⟩ := ihl (k + P.cellsOf f.type) hk (fun g hg => hm g (by simp [hg])) (fun g hg => hy g (by simp [hg]))
       refine ⟨p ++ q, ?_, ⟨p, q, rfl, q2, r2⟩, ?_, ?_⟩
       ·rw [ho'] at q1
        have := q1.append r1
        rw [← List.drop_drop] at this
        rwa [List.take_append_drop] at this
       ·rw [pures_iff] at q3 r3 ⊢
        intro x hx
        exact (List.mem_append.1 hx).elim (q3 x) (r3 x)
       ·rw [List.all_append, q5, r4]; rfl
      ·rw [if_neg ho] at hk; cases hk
    obtain ⟨pcs, k1, k2, k3, k4⟩ := key fs.toList 0 htile hfL hff
    refine ⟨pcs, by simpa using k1, by simpa only [TyCs, hu] using k2, k3, hcl, k4⟩
end

open Go Go.RowKit Go.WideShapes Go.ChangeShapes

def TyA (P : Program) (t : TypeId) (x : PV) : Prop := ∃ n, TyCs P n t x.cells ∧ (if aggT P t then x = .ag x.cells else x.cells = [x])
def AllTy (P : Program) : List TypeId → List PV → Prop
 | [], xs => xs = []
 | t :: ts, xs => ∃ x r, xs = x :: r ∧ TyA P t x ∧ AllTy P ts r

section
variable {H : Type} {enc : TypeId × Value → H} {P : Program} {W : World} {base : Nat}

theorem arg_open (L : List TypeId) (hL : closedT P L = true) {t : TypeId} (ht : t ∈ L) {v : Value} {d : DataW H} {p : List MemPlace} (hv : Value.okWide P W .any base t v) (h : DataW.Trod enc P W 0 (fun _ => true) true t v d p) :
    ∃ x, Rep (G0 W) W x v ∧ TyA P t x := by
 obtain ⟨fuel, hf⟩ := h
 obtain ⟨pcs, q1, q2, q3, q4, q5⟩ := trod_open rfl L hL fuel t _ _ ht hf
 have hc := List.all_eq_true.1 hL t ht
 cases hu : P.underlying t with
 | none => simp [hu] at hc
 | some td =>
  cases td <;> simp only [hu, Bool.false_eq_true] at hc
  case struct fs =>
   obtain ⟨cs, rfl, _⟩ := okWide_struct hu hv
   have ha : aggT P t = true := by simp [aggT, hu]
   refine ⟨.ag pcs, ?_, fuel, q2, by rw [if_pos ha]; rfl⟩
   have := Rep.ag pcs _ q1.len q1.rep q1.one
   simpa [Value.cells] using this
  all_goals
   have ha : aggT P t = false := by simp [aggT, hu]
   have hone : v.cells = #[v] := by
    simp only [Value.okWide, hu, Cell.okWide, Cell.ok] at hv
    cases v <;> first | rfl | (exfalso; exact hv)
   rw [hone] at q1
   obtain ⟨x, rfl⟩ := List.length_eq_one_iff.1 (q1.len.trans rfl)
   have hxo : x.one = true := by simpa using q5
   have hxc : x.cells = [x] := by cases x <;> first | rfl | simp [PV.one] at hxo
   exact ⟨x, by simpa using q1.rep 0 (by simp) (by simp), fuel, by rw [hxc]; exact q2, by rw [if_neg (by simp [ha])]; exact hxc⟩

theorem args_open (L : List TypeId) (hL : closedT P L = true) : ∀ (ts : List TypeId) (vs : List Value) (ds : List (DataW H)) (p : List MemPlace), (∀ t ∈ ts, t ∈ L) → (∀ (j : Nat) t v, ts[j]? = some t → vs[j]? = some v → Value.okWide P W .any base t v) →
    DataW.TrodAll enc P W 0 (fun _ => true) true ts vs ds p → ∃ xs, AllTy P ts xs ∧ xs.length = vs.length ∧ ∀ j (h1 : j < xs.length) (h2 : j < vs.length), Rep (G0 W) W xs[j] vs[j]
 | [], [], [], p, _, _, _ => ⟨[], rfl, rfl, fun j h => by simp at h⟩
 | t :: ts, v :: vs, d :: ds, p, hts, hval, h => by
  obtain ⟨p1, q1, h1, h2, rfl⟩ := h
  obtain ⟨x, hx, hty⟩ := arg_open L hL (hts t (by simp)) (hval 0 t v rfl rfl) h1
  obtain ⟨xs, k1, k2, k3⟩ := args_open L hL ts vs ds q1 (fun u hu => hts u (by simp [hu])) (fun j u w hu hw => hval (j + 1) u w (by simpa using hu) (by simpa using hw)) h2
  refine ⟨x :: xs, ⟨x, xs, rfl, hty, k1⟩, by simp [k2], fun j a b => ?_⟩
  cases j with
  | zero => exact hx
  | succ j => simpa using k3 j (by simpa using a) (by simpa using b)
 | [], _ :: _, _, _, _, _, h => h.elim
 | [], [], _ :: _, _, _, _, h => h.elim
 | _ :: _, [], _, _, _, _, h => h.elim
 | _ :: _, _ :: _, [], _, _, _, h => h.elim

theorem args_below (hl : laidOutB P = true) {W' : World} (hb : Below W.heap.size W W') : ∀ (ts : List TypeId) (vs : List Value) (ds : List (DataW H)) (p : List MemPlace), (∀ t ∈ ts, P.readableRec t = true ∧ t < P.types.size) → (∀ x ∈ p, x.block < W.heap.size) →
    DataW.TrodAll enc P W 0 (fun _ => true) true ts vs ds p → DataW.TrodAll enc P W' 0 (fun b => decide (b < W.heap.size)) true ts vs ds p
 | [], [], [], _, _, _, h => h
 | t :: ts, v :: vs, d :: ds, p, hts, hlt, h => by
  obtain ⟨p1, q1, h1, h2, rfl⟩ := h
  exact ⟨p1, q1, Below.trod hl (hts t (by simp)).1 (hts t (by simp)).2 h1 hb (fun x hx => hlt x (by simp [hx])), args_below hl hb ts vs ds q1 (fun u hu => hts u (by simp [hu])) (fun x hx => hlt x (by simp [hx])) h2, rfl⟩
 | [], _ :: _, _, _, _, _, h => h.elim
 | [], [], _ :: _, _, _, _, h => h.elim
 | _ :: _, [], _, _, _, _, h => h.elim
 | _ :: _, _ :: _, [], _, _, _, h => h.elim

theorem laidAt_lt {w : World} {q : Nat × (Value → Prop)} (h : laidAt w q) : q.1 < w.heap.size := by
 obtain ⟨v, h1, _⟩ := h
 exact World.block_lt_of_cell? w _ h1
end

section
variable {H : Type} {enc : TypeId × Value → H} {P : Program} {W : World} {base : Nat}
theorem handed_and_shaped {a : Assume} {C : Checked} {os : Os} {f : FuncId} {fn : Func} {s : ChangeSpec} {conds : List PathCond} {apart fresh handsOn again : Bool} {X : World → Array Value → Prop}
    (hX : ∀ (w w' : World) (args : Array Value), w.heap = w'.heap → X w args → X w' args)
    (own : ownKnob C.prog.godebug = none) (started : os.Started) (noInit : C.prog.inits.idxOf? f = none) (hfn : C.prog.funcs[f]? = some fn)
    (witness : ∃ (w : World) (tape : Tape) (i : Input), w.os = os ∧ (w.forCall tape i).Shaped C.prog ∧ i.vars = [] ∧ Input.okWide C.prog (w.forCall tape i) .any w.heap.size f i ∧
     ((s.pre enc C.prog fn conds apart (w.forCall tape i).memory i.args ∧ X (w.forCall tape i).memory i.args) ∧ sizedMet enc C.prog fn (OpenSpec.ofChange s) apart (w.forCall tape i).memory i.args) ∧ a.holds C.prog (lone (Frame.enter C.prog f i.args .normal) [] (w.forCall tape i)))
    (contract : ∀ (W : World) (base : Nat) (args : Array Value) (ds gs : List (DataW H)) (before : List MemPlace),
     (∀ (j : Nat) t v, fn.params[j]? = some t → args[j]? = some v → Value.okWide C.prog W .any base t v) →
     DataW.Whole enc C.prog fn.params.toList s.vars apart W args.toList ds gs before →
     conds.all (PathCond.test C.prog ⟨fn.params.toList, ds, s.plain.varTypes C.prog, gs⟩) = true →
     (DataW.weightsEach C.prog (fn.params.toList ++ s.plain.varTypes C.prog) (ds ++ gs)).all (· ≤ reachBytes) = true → X W args → W.ShapedOpen C.prog →
     a.holds C.prog (lone (Frame.enter C.prog f args .normal) [] W) →
     Calls C.prog f args W fun e W' => ∃ v, e = .returned v ∧ s.post enc C.prog fn apart fresh handsOn again W args v W') :
    ReturnsInHanded a C os f .any (fun w args => (s.pre enc C.prog fn conds apart w args ∧ X w args) ∧ sizedMet enc C.prog fn (OpenSpec.ofChange s) apart w args) (s.post enc C.prog fn apart fresh handsOn again) := by
 refine returnsInHanded_of_calls own started noInit witness ?_
 intro w tape i _ hsh _ hok hpre hholds
 obtain ⟨_, _, _, fn', hfn', _, _, _, _, hval⟩ := hok
 have e : fn' = fn := Option.some.inj (hfn'.symm.trans hfn)
 subst e
 obtain ⟨⟨⟨ds, gs, before, hw, hc⟩, hx⟩, hz⟩ := hpre
 have hw' := DataW.Whole.of_heap (w' := w.forCall tape i) (by rfl) hw
 refine (contract (w.forCall tape i) w.heap.size i.args ds gs before hval hw' hc (hz.weights hw) (hX _ _ _ (by rfl) hx) hsh hholds).mono fun e W' ⟨v, he, hp⟩ => ?_
 subst he
 exact ChangeSpec.post_blind hp
theorem lifted_laid {C : Checked} {os : Os} {f : FuncId} {fn : Func} {s : ChangeSpec} {conds : List PathCond} {laid : List (String × DataW Unit)} {tb : TypeId} (own : ownKnob C.prog.godebug = none) (started : os.Started) (noInit : C.prog.inits.idxOf? f = none) (hfn : C.prog.funcs[f]? = some fn)
    (witness : ∃ (w : World) (tape : Tape) (i : Input), w.os = os ∧ (w.forCall tape i).Shaped C.prog ∧ i.vars = [] ∧ Input.okWide C.prog (w.forCall tape i) .any w.heap.size f i ∧
     ((s.pre enc C.prog fn conds false (w.forCall tape i).memory i.args ∧ laidMetH C.prog laid (w.forCall tape i).memory) ∧ sizedMet enc C.prog fn (OpenSpec.ofChange s) false (w.forCall tape i).memory i.args) ∧ ({} : Assume).holds C.prog (lone (Frame.enter C.prog f i.args .normal) [] (w.forCall tape i)))
    (hvars : s.vars = []) (hspec : ∀ (ds : List (DataW H)), ds.length = fn.params.size → s.fn H ds = { results := [.lit (.bool true)], args := ds }) (hres : fn.resultTypes = #[tb]) (htb : C.prog.underlying tb = some .bool)
    (L : List TypeId) (hL : closedT C.prog L = true) (hts : ∀ t ∈ fn.params.toList, t ∈ L) (hl : laidOutB C.prog = true) (hrd : ∀ t ∈ fn.params.toList, C.prog.readableRec t = true ∧ t < C.prog.types.size)
    (law : ∀ xs, AllTy C.prog fn.params.toList xs → ACalls C.prog f xs M0 (fun v m' => v = .v (.bool true))) (hgl : ∀ W : World, laidMetH C.prog laid W → W.ShapedOpen C.prog → ∀ q ∈ laidC, laidAt W q) :
    ReturnsInHanded {} C os f .any (fun w args => (s.pre enc C.prog fn conds false w args ∧ laidMetH C.prog laid w) ∧ sizedMet enc C.prog fn (OpenSpec.ofChange s) false w args) (s.post enc C.prog fn false true false false) := by
 refine handed_and_shaped (C := C) (X := fun w _ => laidMetH C.prog laid w) (fun _ _ _ hh h => h.of_heap hh) own started noInit hfn witness ?_
 intro W base args ds gs before hval hW hcnd _ hLd hsh _
 have hlaidC : ∀ q ∈ laidC, laidAt W q ∧ q.1 < W.heap.size := fun q hq => ⟨hgl W hLd hsh q hq, laidAt_lt (hgl W hLd hsh q hq)⟩
 have hW' := hW
 obtain ⟨p, q, hA, hV, rfl, hfz, hnd⟩ := hW
 rw [hvars] at hV
 obtain ⟨rfl, rfl⟩ := trodVars_none hV
 obtain ⟨xs, k1, k2, k3⟩ := args_open L hL fn.params.toList args.toList ds p hts (fun j t v h1 h2 => hval j t v (by simpa using h1) (by simpa using h2)) hA
 have hlaw := law_of (w := W) (vs := args.toList) (y := .bool true) (law xs k1) k2 k3 (fun G w u h => h.atomEq) hlaidC
 rw [Array.toArray_toList] at hlaw
 refine hlaw.mono fun e W' ⟨he, hb⟩ => ?_
 subst he
 have hlen : ds.length = fn.params.size := by
  have : ∀ (ts : List TypeId) (vs : List Value) (ds : List (DataW H)) (p : List MemPlace), DataW.TrodAll enc C.prog W 0 (fun _ => true) true ts vs ds p → ds.length = ts.length := by
   intro ts
   induction ts with
   | nil => intro vs ds p h; cases vs <;> cases ds <;> first | rfl | exact h.elim
   | cons t ts ih =>
    intro vs ds p h
    cases vs with
    | nil => exact h.elim
    | cons v vs =>
     cases ds with
     | nil => exact h.elim
     | cons d ds => obtain ⟨_, _, _, h2, _⟩ := h; simp [ih vs ds _ h2]
  simpa using this _ _ _ _ hA
 have hsp := hspec (ds ++ []) (by simpa using hlen)
 have hlow : ∀ x ∈ p, x.block < W.heap.size := fun x hx => hW'.lt x (by simpa using hx)
 refine ⟨_, rfl, ds, [], p ++ [], [], p, [], hW', ?_, ?_, ?_, hb.frame _, fun h => by cases h⟩
 ·rw [hsp, hres]
  exact trodAll_mk1 (shut_bool htb true)
 ·rw [hsp]
  simp only [List.append_nil]
  exact args_below hl hb _ _ _ _ hrd hlow hA
 ·rw [hvars, hsp]
  rfl
end

open Go

section
variable {P : Program}
theorem intR_of {t : TypeId} {k : IntKind} (h : P.underlying t = some (.int k)) : ∀ {n : Nat} {p : List PV}, TyCs P n t p → ∃ i : Int, p = [.v (.int k i)] ∧ k.min ≤ i ∧ i ≤ k.max
 | 0, _, hh => hh.elim
 | n + 1, p, hh => by
  simp only [TyCs, h] at hh
  obtain ⟨i, h1, h2⟩ := hh
  simp only [Lit.wf, Bool.and_eq_true, decide_eq_true_eq] at h2
  exact ⟨i, h1, h2.1, h2.2⟩
theorem u8_of {t : TypeId} (h : P.underlying t = some (.int .u8)) : ∀ {n : Nat} {p : List PV}, TyCs P n t p → ∃ i : Int, p = [.v (.int .u8 i)] ∧ 0 ≤ i ∧ i ≤ 255
 | 0, _, hh => hh.elim
 | n + 1, p, hh => by
  simp only [TyCs, h] at hh
  obtain ⟨i, h1, h2⟩ := hh
  simp only [Lit.wf, Bool.and_eq_true, decide_eq_true_eq] at h2
  have e1 : IntKind.u8.min = 0 := by decide
  have e2 : IntKind.u8.max = 255 := by decide
  rw [e1, e2] at h2
  exact ⟨i, h1, h2.1, h2.2⟩
theorem list_of {α : Type} (g : α → PV) : ∀ {xs : List PV}, (∀ x ∈ xs, ∃ e, x = g e) → ∃ es : List α, xs = es.map g
 | [], _ => ⟨[], rfl⟩
 | x :: xs, h => by
  obtain ⟨e, he⟩ := h x (by simp)
  obtain ⟨es, hes⟩ := list_of g (xs := xs) (fun y hy => h y (by simp [hy]))
  exact ⟨e :: es, by rw [he, hes]; rfl⟩
theorem bytes_of {t e : TypeId} (h : P.underlying t = some (.slice e)) (he : P.underlying e = some (.int .u8)) {n : Nat} {p : List PV} (hh : TyCs P n t p) : ∃ l : List Int, (∀ x ∈ l, 0 ≤ x ∧ x ≤ 255) ∧ p = [.sl .no (l.map fun i => .v (.int .u8 i))] := by
 have ha : aggT P e = false := by simp [aggT, he]
 cases n with
 | zero => exact hh.elim
 | succ n =>
  simp only [TyCs, h] at hh
  obtain ⟨xs, rfl, _, h3⟩ := hh
  have key : ∀ x ∈ xs, ∃ i : { i : Int // 0 ≤ i ∧ i ≤ 255 }, x = .v (.int .u8 i.1) := fun x hx => by
   obtain ⟨h1, h2⟩ := h3 x hx
   rw [if_neg (by simp [ha])] at h2
   cases n with
   | zero => exact h1.elim
   | succ n =>
    simp only [TyCs, he] at h1
    obtain ⟨i, e1, e2⟩ := h1
    rw [h2] at e1
    simp [Lit.wf, IntKind.min, IntKind.max, IntKind.signed, IntKind.bits] at e2
    exact ⟨⟨i, by omega⟩, by simpa using e1⟩
  obtain ⟨l, rfl⟩ := list_of (fun i : { i : Int // 0 ≤ i ∧ i ≤ 255 } => PV.v (.int .u8 i.1)) key
  refine ⟨l.map (·.1), fun x hx => ?_, by simp [List.map_map, Function.comp_def]⟩
  obtain ⟨i, _, rfl⟩ := List.mem_map.1 hx
  exact i.2
end

end Go.Proofs.YthhhnfjcaicjnaaGreatDoor
