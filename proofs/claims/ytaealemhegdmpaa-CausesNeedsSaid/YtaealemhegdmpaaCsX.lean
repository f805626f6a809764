/-
 causes: does a vertex need another one, step by step?
-/
-- halved
import Derived.Test.YtaealemhegdmpaaCgF
import Derived.Test.YtaealemhegdmpaaAbLp
set_option linter.unusedVariables false
set_option linter.unusedSimpArgs false
namespace Go.Proofs.Ytaealemhegdmpaa
open Nat renaming reduceEqDiff → jA, reduceAdd → jB, reduceMul → jC, reduceLT → jD, reduceLeDiff → jE, reduceBEq → jF, reduceBNe → jG
open Int renaming reduceLE → jH, reduceLT → jI, reduceToNat → jJ, reduceEq → jK
open Go
set_option maxRecDepth 20000
-- TNAMES: int; uint8; int32; string; bool; []string; api.Pos; []int; []bool; causes.graph; []causes.vertex; causes.vertex; causes.scope; *causes.graph


abbrev TG (E : Nat → Nat → Prop) := Relation.TransGen E
/-- What is not seen yet, weighed. -/
def unS : List Nat → List Bool → Nat
 | w :: ws, b :: bs => (if b then 0 else w) + unS ws bs
 | _, _ => 0
theorem unS_set : ∀ (w : List Nat) (s : List Bool) (i : Nat) (hi : i < s.length) (hw : i < w.length), s[i] = false → unS w (s.set i true) + w[i] = unS w s
 | a :: w, b :: s, 0, _, _, h => by
  simp only [List.getElem_cons_zero] at h
  subst h
  simp [unS]; omega
 | a :: w, b :: s, i + 1, hi, hw, h => by
  have := unS_set w s i (by simpa using hi) (by simpa using hw) (by simpa using h)
  simp only [List.set_cons_succ, unS, List.getElem_cons_succ]
  omega
theorem unS_le : ∀ (w : List Nat) (s : List Bool), unS w s ≤ w.sum
 | [], s => by simp [unS]
 | a :: w, [] => by simp [unS]
 | a :: w, b :: s => by
  have := unS_le w s
  simp only [unS, List.sum_cons]
  split <;> omega
theorem sum_le_mul (l : List Nat) (b : Nat) (h : ∀ x ∈ l, x ≤ b) : l.sum ≤ l.length * b := by
 induction l with
 | nil => simp
 | cons a l ih =>
  have h1 := h a (List.mem_cons_self ..)
  have h2 := ih (fun x hx => h x (List.mem_cons_of_mem _ hx))
  simp only [List.sum_cons, List.length_cons, Nat.add_mul]
  omega
/-- How the search stands. -/
structure Dfs (E : Nat → Nat → Prop) (from_ to : Nat) (n : Nat) (seen : List Bool) (xs : List Int) : Prop where
 len : seen.length = n
 rng : ∀ x ∈ xs, ∃ k : Nat, x = (k : Int) ∧ k < n ∧ TG E from_ k
 sn : ∀ k : Nat, seen[k]? = some true → TG E from_ k ∧ k ≠ to
 st : ∀ y : Nat, E from_ y → (y : Int) ∈ xs ∨ seen[y]? = some true
 cl : ∀ k y : Nat, seen[k]? = some true → E k y → (y : Int) ∈ xs ∨ seen[y]? = some true
theorem Dfs.done {E : Nat → Nat → Prop} {from_ to n : Nat} {seen : List Bool} (h : Dfs E from_ to n seen []) : ¬ TG E from_ to := fun ht => by
 have key : ∀ y, TG E from_ y → seen[y]? = some true := fun y hy => by
  induction hy with
  | single h1 => exact (h.st _ h1).resolve_left (by simp)
  | tail _ h1 ih => exact (h.cl _ _ ih h1).resolve_left (by simp)
 exact (h.sn to (key to ht)).2 rfl
theorem Dfs.skip {E : Nat → Nat → Prop} {from_ to n k : Nat} {seen : List Bool} {xs : List Int} (h : Dfs E from_ to n seen (xs ++ [(k : Int)])) (hs : seen[k]? = some true) : Dfs E from_ to n seen xs := by
 refine ⟨h.len, fun x hx => h.rng x (List.mem_append_left _ hx), h.sn, fun y hy => ?_, fun j y hj hy => ?_⟩
 ·rcases h.st y hy with h1 | h1
  ·rcases List.mem_append.1 h1 with h1 | h1
   ·exact .inl h1
   ·have : y = k := by simp at h1; omega
    exact .inr (this ▸ hs)
  ·exact .inr h1
 ·rcases h.cl j y hj hy with h1 | h1
  ·rcases List.mem_append.1 h1 with h1 | h1
   ·exact .inl h1
   ·have : y = k := by simp at h1; omega
    exact .inr (this ▸ hs)
  ·exact .inr h1
theorem Dfs.visit {E : Nat → Nat → Prop} {from_ to n k : Nat} {seen : List Bool} {xs l : List Int} (h : Dfs E from_ to n seen (xs ++ [(k : Int)])) (hk : k < n) (hne : k ≠ to) (hl : ∀ b : Nat, (b : Int) ∈ l ↔ E k b) (hr : ∀ x ∈ l, 0 ≤ x ∧ x < (n : Int)) : Dfs E from_ to n (seen.set k true) (xs ++ l) := by
 obtain ⟨k', e1, _, hkt⟩ := h.rng k (by simp)
 have e2 : k' = k := by omega
 subst e2
 have hget : ∀ y : Nat, (seen.set k' true)[y]? = some true ↔ y = k' ∨ seen[y]? = some true := fun y => by
  rw [List.getElem?_set]
  have := h.len
  by_cases hy : k' = y
  ·subst hy; simp [h.len, hk]
  ·simp only [hy, if_false]
   constructor
   ·exact .inr
   ·rintro (h1 | h1)
    ·exact absurd h1.symm hy
    ·exact h1
 have mv : ∀ y : Nat, ((y : Int) ∈ xs ++ [(k' : Int)] ∨ seen[y]? = some true) → (y : Int) ∈ xs ++ l ∨ (seen.set k' true)[y]? = some true := fun y hy => by
  rcases hy with h1 | h1
  ·rcases List.mem_append.1 h1 with h1 | h1
   ·exact .inl (List.mem_append_left _ h1)
   ·have : y = k' := by simp at h1; omega
    exact .inr ((hget y).2 (.inl this))
  ·exact .inr ((hget y).2 (.inr h1))
 refine ⟨by rw [List.length_set]; exact h.len, fun x hx => ?_, fun j hj => ?_, fun y hy => mv y (h.st y hy), fun j y hj hy => ?_⟩
 ·rcases List.mem_append.1 hx with hx | hx
  ·exact h.rng x (List.mem_append_left _ hx)
  ·obtain ⟨h1, h2⟩ := hr x hx
   refine ⟨x.toNat, by omega, by omega, ?_⟩
   refine .tail hkt ((hl x.toNat).1 ?_)
   rwa [Int.toNat_of_nonneg h1]
 ·rcases (hget j).1 hj with rfl | h1
  ·exact ⟨hkt, hne⟩
  ·exact h.sn j h1
 ·rcases (hget j).1 hj with rfl | h1
  ·exact .inl (List.mem_append_right _ ((hl y).2 hy))
  ·exact mv y (h.cl j y h1 hy)
/-- A slice that grows, of a function's own. -/
def StkA (m0 : M) (sid : Nat) (m : M) (v : PV) (xs : List Int) : Prop := (v = .sl .full [] ∧ xs = []) ∨ ∃ (id cap : Nat) (c : List PV), v = .gs id xs.length cap ∧ m.get id = some c ∧ c.length = cap ∧ xs.length ≤ cap ∧ c.take xs.length = xs.map pI ∧ m0.nb ≤ id ∧ id ≠ sid
set_option maxHeartbeats 8000000 in
theorem reaches_S {mb m : M} {gid : Nat} {g : Gs} (hg : GS mb gid g m) (hn : g.vs.length ≤ 4000000) {i j : Nat} (hi : i < g.vs.length) :
    ACalls Try.prog 14 [.bp gid 0, pN i, pN j] m (fun v m' => ∃ b : Bool, v = pB b ∧ (b = true ↔ TG g.E i j) ∧ m' = m) := by
 obtain ⟨L, h1, h2⟩ := hg
 rw [h2.len] at hn hi
 rcases h1.box with ⟨h0, _⟩ | ⟨lid, cap, c, b0, b0', b1, b2, b3, b4, b5, b6⟩
 ·rw [h0] at hi; simp at hi
 have hgl := gcells_len L
 have hlid := M.get_lt b2
 have hglt := h1.glt
 have b4' := Nat.mul_le_mul_right 4 b4
 have hnd : ∀ k (h : k < L.length), c.getD (k * 4 + 3) .junk = .sl L[k].o (L[k].l.map pI) ∧ k * 4 + 3 < c.length := fun k h => by
  have h1 := gcells_at h 3 (by omega)
  rw [← b5, List.getElem?_take_of_lt (by omega)] at h1
  exact ⟨by rw [List.getD, h1]; rfl, by omega⟩
 obtain ⟨hn0, hn1⟩ := hnd i hi
 have hL0 := (h2.ok i hi).len
 have hcl := fun m => cloneG_any L[i].o L[i].l m (by omega)
 refine ACalls.enter (mu := [15, 59]) ok_mix Try.func14 rfl (by kernel_rfl) (by kernel_rfl) (by simp only [List.length_cons, List.length_nil, Try.ntmps14]; omega) ?_
 have hb1 : ∀ A, (m.ext [some A]).get gid = some [.gs lid L.length cap] := fun A => ext_old b1
 have hb2 : ∀ A, (m.ext [some A]).get lid = some c := fun A => ext_old b2
 have hmx : (L.length : Int) ≤ maxLen := by unfold maxLen; omega
 (repeat (first | refine aSeq fun X hX => ?_ | refine aReg ?_; simp -implicitDefEqProofs only [↓slp, ↓reduceIte, reduceCtorEq, jF, Y0, b1, pN, Nat.zero_add, exists_eq'] | apply hX; clear hX X))
 refine ⟨⟨⟨by omega, by omega⟩, rfl⟩, ?_⟩
 have hsn : List.replicate L.length (PV.v (.bool false)) = (List.replicate L.length false).map fun b => PV.v (.bool b) := by simp
 rw [hsn]
 obtain ⟨m1, hm1⟩ : ∃ m1, m.ext [some ((List.replicate L.length false).map fun b => PV.v (.bool b))] = m1 := ⟨_, rfl⟩
 have hm1' : m.push ((List.replicate L.length false).map fun b => PV.v (.bool b)) = m1 := hm1
 have hB1 : BaseR m m1 := by rw [← hm1']; exact (BaseR.refl m).push _
 have hS1 : m1.get m.nb = some ((List.replicate L.length false).map fun b => PV.v (.bool b)) := by rw [← hm1', M.get_push, if_pos rfl]
 have hN1 : m1.nb = m.nb + 1 := by rw [← hm1', push_nb]
 have hb1 : m1.get gid = some [.gs lid L.length cap] := by rw [hB1.get hglt]; exact b1
 have hb2 : m1.get lid = some c := by rw [hB1.get hlid]; exact b2
 rw [hm1]
 refine hX _ _ ?_
 clear hX X
 refine aSeq fun X hX => ?_
 have join : ∀ (f : F) (m2 : M) (v : PV), f 0 = .bp gid 0 → f 2 = pN j → f 7 = .bs m.nb 0 L.length → f 8 = v → StkA m m.nb m2 v L[i].l → m2.get m.nb = some ((List.replicate L.length false).map fun b => PV.v (.bool b)) → BaseR m m2 → X f m2 := by
  clear hb1 hb2 hB1 hS1 hN1
  intro f m2 v f0 f2 f7 f8 hstk hsb hB
  refine hX _ _ ?_
  clear hX X
  have ws : True := trivial
  refine aSeq fun X hX => ?_
  refine aLoopN (fun nn f m2 => ∃ (seen : List Bool) (xs : List Int) (v : PV), f 0 = .bp gid 0 ∧ f 2 = pN j ∧ f 7 = .bs m.nb 0 L.length ∧ f 8 = v ∧ StkA m m.nb m2 v xs ∧ m2.get m.nb = some (seen.map fun b => PV.v (.bool b)) ∧ BaseR m m2 ∧ Dfs g.E i j L.length seen xs ∧ nn = xs.length + unS (L.map fun x => x.l.length + 1) seen ∧ nn ≤ 17000000000000) (L[i].l.length + unS (L.map fun x => x.l.length + 1) (List.replicate L.length false)) ?_ ?_
  ·refine ⟨_, _, v, f0, f2, f7, f8, hstk, hsb, hB, ⟨by simp, fun x hx => ?_, fun k hk => ?_, fun y hy => .inl ((h2.ed i hi y).2 hy), fun k y hk => ?_⟩, rfl, ?_⟩
   ·obtain ⟨q1, q2⟩ := (h2.ok i hi).2 x hx
    refine ⟨x.toNat, by omega, by omega, .single ((h2.ed i hi _).1 ?_)⟩
    rwa [Int.toNat_of_nonneg q1]
   ·rw [List.getElem?_replicate] at hk; split at hk <;> simp at hk
   ·rw [List.getElem?_replicate] at hk; split at hk <;> simp at hk
   ·have q1 := unS_le (L.map fun x => x.l.length + 1) (List.replicate L.length false)
    have q2 := sum_le_mul (L.map fun x => x.l.length + 1) (L.length + 1) (fun y hy => by
     obtain ⟨x, hx, rfl⟩ := List.mem_map.1 hy
     obtain ⟨k, hk, rfl⟩ := List.getElem_of_mem hx
     have := (h2.ok k hk).len
     omega)
    rw [List.length_map] at q2
    have q3 : L.length * (L.length + 1) ≤ 4000000 * 4000001 := Nat.mul_le_mul hn (by omega)
    omega
  clear f0 f2 f7 f8 hstk hsb hB
  intro W nn f m2 hJ hW
  obtain ⟨seen, xs, v, f0, f2, f7, f8, hstk, hsb, hB, hd, hnn, hnb⟩ := hJ
  have hb1 : m2.get gid = some [.gs lid L.length cap] := by rw [hB.get hglt]; exact b1
  have hb2 : m2.get lid = some c := by rw [hB.get hlid]; exact b2
  -- nothing is left
  have fin : xs = [] → ∀ f' : F, X f' m2 := fun hx f' => by
   subst hx
   refine hX _ _ ?_
   clear hX X
   (repeat (first | refine aSeq fun X hX => ?_ | refine aRet ?_ | refine aReg ?_; simp -implicitDefEqProofs only [↓slp, slb, jF] | apply hX; clear hX X))
   simp only [aPost, Try.results14, aRes_n, aRes_t, aRes_c, pack_one, pack_two]
   exact leave_plain hB.boxes hB.toks rfl ⟨false, rfl, ⟨(fun h => by cases h), (fun h => absurd h hd.done)⟩, rfl⟩
  rcases hstk with ⟨rfl, rfl⟩ | ⟨id, cap2, c2, rfl, d1, d2, d3, d4, d5, d6⟩
  ·have c0 : decide ((0 : Int) > 0) = false := by decide
   (repeat (first | refine aSeq fun X hX => ?_ | refine aExit ?_; try simp only [slx, ↓reduceIte, jA, reduceCtorEq] | (first | apply aReg | apply aIf); simp -implicitDefEqProofs only [↓slp, ↓reduceIte, jF, Y0, f8, c0, Int.natCast_zero] | apply hX; clear hX X | intro hlen; unfold maxLen at hlen))
   exact fin rfl _
  rcases List.eq_nil_or_concat xs with rfl | ⟨ys, x, rfl⟩
  ·have c0 : decide ((0 : Int) > 0) = false := by decide
   (repeat (first | refine aSeq fun X hX => ?_ | refine aExit ?_; try simp only [slx, ↓reduceIte, jA, reduceCtorEq] | (first | apply aReg | apply aIf); simp -implicitDefEqProofs only [↓slp, ↓reduceIte, jF, Y0, f8, c0, Int.natCast_zero, exists_eq'] | apply hX; clear hX X))
   exact fin rfl _
  rw [List.concat_eq_append] at *
  have hyl : (ys ++ [x]).length = ys.length + 1 := by simp
  obtain ⟨k, rfl, hk, hkt⟩ := hd.rng x (by simp)
  obtain ⟨e0, e1⟩ := hnd k hk
  have c0 : decide (((ys.length + 1 : Nat) : Int) > 0) = true := by simp
  have hw : IntKind.i64.wrap (((ys.length + 1 : Nat) : Int) - 1) = (ys.length : Int) := by rw [wrap64 (by omega)]; omega
  rw [hyl] at f8 d3 d4
  have hx : c2.getD ys.length .junk = pN k := by
   have := congrArg (fun l => l[ys.length]?) d4
   simp only [List.getElem?_take_of_lt (Nat.lt_succ_self _)] at this
   rw [List.getD, this]; simp
  have hc2 : ys.length < c2.length := by omega
  have hys : c2.take ys.length = ys.map pI := by
   have := congrArg (List.take ys.length) d4
   rw [List.take_take, Nat.min_eq_left (by omega)] at this
   rw [this]; simp
  have hbl := hd.len
  have hks : k < seen.length := by omega
  have hsg : (seen.map fun b => PV.v (.bool b)).getD k .junk = .v (.bool seen[k]) := getD_map (fun b => PV.v (.bool b)) seen k hks
  have hsl : (seen.map fun b => PV.v (.bool b)).length = seen.length := List.length_map _
  cases ck : ((k : Int) == (j : Int)) with
  | true =>
   have hkj : k = j := by simp at ck; omega
   (repeat (first | refine aSeq fun X hX => ?_ | refine aSkip ?_ | refine aRet ?_; try simp only [slx, ↓reduceIte, jA, reduceCtorEq] | (first | apply aReg | apply aIf); simp -implicitDefEqProofs only [↓slp, ↓reduceIte, reduceCtorEq, jA, jF, Y0, f2, f8, c0, hw, hx, d1, pN, ck, Nat.mul_one, gt_iff_lt, exists_eq'] | apply hX; clear hX X | apply And.intro; focus omega))
   simp only [aPost, Try.results14, aRes_n, aRes_t, aRes_c, pack_one, pack_two]
   exact leave_plain hB.boxes hB.toks rfl ⟨true, rfl, ⟨(fun _ => hkj ▸ hkt), (fun _ => rfl)⟩, rfl⟩
  | false =>
   have hkj : k ≠ j := fun e => by subst e; simp at ck
   cases cs : seen[k] with
   | true =>
    rw [cs] at hsg
    have hd' := hd.skip (by rw [List.getElem?_eq_getElem hks, cs])
    (repeat (first | refine aSeq fun X hX => ?_ | refine aSkip ?_ | (first | apply aReg | apply aIf); simp -implicitDefEqProofs only [↓slp, ↓reduceIte, reduceCtorEq, jA, jF, Y0, f2, f7, f8, c0, hw, hx, d1, pN, ck, hsb, hsg, Nat.zero_add, Nat.mul_one, gt_iff_lt, exists_eq'] | apply hX; clear hX X | apply And.intro; focus omega))
    exact hW _ _ _ (by rw [hnn, hyl]; omega) ⟨seen, ys, _, f0, f2, f7, rfl, .inr ⟨id, cap2, c2, rfl, d1, d2, by omega, hys, d5, d6⟩, hsb, hB, hd', rfl, by rw [hnn, hyl] at hnb; omega⟩
   | false =>
    rw [cs] at hsg
    have hmap : (seen.set k true).map (fun b => PV.v (.bool b)) = (seen.map fun b => PV.v (.bool b)).set k (.v (.bool true)) := by rw [List.map_set]
    have hss := splice_set (seen.map fun b => PV.v (.bool b)) k (.v (.bool true)) (by rw [hsl]; exact hks)
    rw [← hmap] at hss
    have hNlt := M.get_lt hsb
    obtain ⟨m3, hm3⟩ : ∃ m3, m2.upd m.nb ((seen.set k true).map fun b => PV.v (.bool b)) = m3 := ⟨_, rfl⟩
    have hB3 : BaseR m m3 := by rw [← hm3]; exact hB.upd (Nat.le_refl _) _
    have g1' : m3.get gid = some [.gs lid L.length cap] := by rw [hB3.get hglt]; exact b1
    have g2' : m3.get lid = some c := by rw [hB3.get hlid]; exact b2
    have g3' : m3.get id = some c2 := by rw [← hm3, M.get_upd, if_neg (fun q => d6 q.1)]; exact d1
    have g4' : m3.get m.nb = some ((seen.set k true).map fun b => PV.v (.bool b)) := by rw [← hm3, M.get_upd, if_pos ⟨rfl, hNlt⟩]
    (repeat (first | refine aSeq fun X hX => ?_ | refine aSkip ?_ | (first | apply aReg | apply aIf); simp -implicitDefEqProofs only [↓slp, ↓reduceIte, reduceCtorEq, jA, jF, Y0, f0, f2, f7, f8, c0, hw, hx, d1, pN, ck, hsb, hsg, hsl, hss, hm3, g1', g2', g3', e0, Nat.zero_add, Nat.mul_one, gt_iff_lt, exists_eq'] | apply hX; clear hX X | apply And.intro; focus omega))
    have hun := unS_set (L.map fun x => x.l.length + 1) seen k hks (by simpa using hk) cs
    rw [List.getElem_map] at hun
    rw [hyl] at hnn
    refine ⟨⟨⟨d2, by omega⟩, ints_one _, by unfold maxLen; omega, by omega⟩, ?_⟩
    rintro v m' ⟨id', cap', c', rfl, q1, q2, q3, q4, hmw⟩
    have hfl : List.flatMap PV.cells (L[k].l.map pI) = L[k].l.map pI := by
     rw [List.flatMap_map]
     exact List.map_eq_flatMap.symm
    rw [hfl, Nat.mul_one, Nat.mul_one, hys, ← List.map_append] at q3
    rw [Nat.mul_one] at q2
    have hnx : m'.get id' = some c' ∧ m.nb ≤ id' ∧ id' ≠ m.nb ∧ m'.get m.nb = some ((seen.set k true).map fun b => PV.v (.bool b)) ∧ BaseR m m' := by
     have hi3 := M.get_lt g3'
     have hN3 := M.get_lt g4'
     rcases hmw with ⟨rfl, rfl⟩ | ⟨rfl, rfl⟩
     ·exact ⟨by rw [M.get_upd, if_pos ⟨rfl, hi3⟩], d5, d6, by rw [M.get_upd, if_neg (fun q => d6 q.1.symm)]; exact g4', hB3.upd d5 _⟩
     ·have hlt : m.nb < m3.nb := hN3
      exact ⟨by rw [M.get_push, if_pos rfl], by omega, by omega, by rw [M.get_push, if_neg (by omega)]; exact g4', hB3.push _⟩
    obtain ⟨n1, n2, n3, n4, n5⟩ := hnx
    have hd' := hd.visit hk hkj (fun b => h2.ed k hk b) (h2.ok k hk).2
    have hll : (ys ++ L[k].l).length = ys.length + L[k].l.length := List.length_append
    exact hW _ _ _ (by rw [hnn]; omega) ⟨seen.set k true, ys ++ L[k].l, _, f0, f2, f7, rfl, .inr ⟨id', cap', c', by rw [hll]; rfl, n1, q2, by omega, by rw [hll]; exact q3, n2, n3⟩, n4, n5, hd', rfl, by omega⟩
 refine aReg ?_; simp -implicitDefEqProofs only [↓slp, ↓reduceIte, reduceCtorEq, jA, jF, Y0, hb1, hb2, hn0, Nat.zero_add]
 refine ⟨hi, hn1, ?_⟩
 refine callM (hcl m1) ?_
 rintro v m2 (⟨z1, rfl, rfl⟩ | ⟨z0, cap2, c2, rfl, z2, z3, z4, rfl⟩)
 ·simp -implicitDefEqProofs only [↓slp, slb, ↓reduceIte, jF]
  exact join _ _ _ rfl rfl rfl rfl (.inl ⟨rfl, z1⟩) hS1 hB1
 ·simp -implicitDefEqProofs only [↓slp, slb, ↓reduceIte, jF]
  exact join _ _ _ rfl rfl rfl rfl (.inr ⟨m1.nb, cap2, c2, rfl, by show (m1.push c2).get m1.nb = _; rw [M.get_push, if_pos rfl], z3, z2, z4, by omega, by omega⟩) (by show (m1.push c2).get m.nb = _; rw [M.get_push, if_neg (by omega)]; exact hS1) (hB1.push _)
end Go.Proofs.Ytaealemhegdmpaa
