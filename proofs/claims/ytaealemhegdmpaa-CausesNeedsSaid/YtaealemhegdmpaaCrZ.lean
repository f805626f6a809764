/-
 Texts that belong together: CrW, CrWb.
-/
-- halved
import Derived.Test.YtaealemhegdmpaaCrX
import Derived.Test.YtaealemhegdmpaaCnT
/-
 The reference's graph (layer 11): blocks, walked.
-/
set_option linter.unusedVariables false
set_option linter.unusedSimpArgs false
namespace Go.Proofs.Ytaealemhegdmpaa
open Go
-- EXX: Qu.settle_pv, Qu.pure_pv, Qu.cells_pv, Qu.cs, Am.settle_pv, Am.pure_pv, Am.cells_pv, Am.cs, Tr.settle_pv, Tr.pure_pv, Tr.cells_pv, Tr.cs
set_option maxRecDepth 20000
-- TNAMES: int; uint8; int32; string; bool; []string; []api.Expr; api.Expr; api.Pos; []api.Pos; api.Type; api.On; []api.On; api.Var; []api.Var; api.Equation; []api.Equation; api.Block; api.Trans; []api.Trans; api.Arm; []api.Arm; []int; [2]int; [][2]int; []bool; [][]bool; metronomeref11.Graph; *metronomeref11.Graph
-- BUNDLE

/-- Places of what expressions read, each once, after those of a list. -/
def rdIs (N : List Str) (see : List Nat) (l : List Int) (es : List Ex) : List Int := es.foldl (fun a e => rdI N see a (e.reads true [])) l
theorem rdIs_app {N : List Str} {see : List Nat} {l : List Int} {es fs : List Ex} : rdIs N see l (es ++ fs) = rdIs N see (rdIs N see l es) fs := by unfold rdIs; rw [List.foldl_append]
theorem rdIs_mem (N : List Str) (see : List Nat) : ∀ (es : List Ex) (l : List Int) (y : Int), y ∈ rdIs N see l es ↔ y ∈ l ∨ y ∈ rdL N see es
 | [], l, y => by simp [rdIs, rdL]
 | e :: es, l, y => by
  show y ∈ rdIs N see (rdI N see l (e.reads true [])) es ↔ _
  rw [rdIs_mem N see es, rdI_mem]
  show _ ↔ y ∈ l ∨ y ∈ (e.reads true []).map (fndN N see) ++ rdL N see es
  rw [List.mem_append]
  exact or_assoc
theorem rdIs_len (N : List Str) (see : List Nat) : ∀ (es : List Ex) (l : List Int), (∀ e ∈ es, e.size ≤ 1000) → (rdIs N see l es).length ≤ l.length + es.length * 1000
 | [], l, _ => Nat.le_refl _
 | e :: es, l, h => by
  have h1 := rdIs_len N see es (rdI N see l (e.reads true [])) (fun x hx => h x (List.mem_cons_of_mem _ hx))
  have h2 := rdI_len N see (e.reads true []) l
  have h3 := reads_len true [] e
  have h4 := h e (List.mem_cons_self ..)
  simp only [List.length_nil] at h3
  show (rdIs N see (rdI N see l (e.reads true [])) es).length ≤ _
  rw [List.length_cons]; omega
/-- Own boxes change in a place, and what is made is new. -/
theorem Oth.trans {gid : Nat} {a b c : M} (h : Oth gid a b) (k : Oth gid b c) (hn : a.nb ≤ b.nb) : Oth gid a c := fun x hx hl => (k x hx (by omega)).trans (h x hx hl)
theorem Oth.refl (gid : Nat) (a : M) : Oth gid a a := fun _ _ _ => rfl
theorem Oth.push (gid : Nat) (a : M) (c : List PV) : Oth gid a (a.push c) := fun x _ hl => by rw [M.get_push, if_neg (by omega)]
/-- The first expressions that an equation reads. -/
def exF (q : Qu) : List Ex := if q.kind = 4 then q.arms.flatMap fun a => a.unl.map Tr.e else if q.kind ≠ 2 ∨ q.has = true then [q.e] else []
theorem exQ_eq (q : Qu) : exQ q = exF q ++ q.args := rfl
section
variable {df : DfT} {bl : BlT} {PB : List Str → List Va → List Qu → Prop} {PD : List Va → List Qu → List Str → Prop} {cb pb : List Va → List Qu → Nat} {K : Nat}
theorem CsQ.rd {S : List Str} {q : Qu} (h : CsQ df PB PD S q) : (∀ e ∈ q.args, CsX e) ∧ q.args.length ≤ 3 ∧ (∀ e ∈ exF q, CsX e) ∧ (exF q).length ≤ 9 ∧ (exF q).length + q.args.length ≤ 9 := by
 obtain ⟨_, _, ha, _, h⟩ := h
 rcases h with ⟨h1, _, h2, _, h3⟩ | ⟨h1, _, h2, h3, h4⟩ | ⟨h1, h2, h3⟩ | ⟨h1, h2, h3⟩
 ·have e1 : exF q = [q.e] := by unfold exF; rw [if_neg (by rw [h1]; decide), if_pos (.inl (by rw [h1]; decide))]
  rw [h2, e1]
  exact ⟨(fun e he => by cases he), by simp, fun e he => by rw [List.mem_singleton] at he; subst he; exact h3, by simp, by simp⟩
 ·refine ⟨h3, h2, ?_⟩
  cases hh : q.has with
  | true =>
   have e1 : exF q = [q.e] := by unfold exF; rw [if_neg (by rw [h1]; decide), if_pos (.inr hh)]
   rw [e1]
   exact ⟨fun e he => by rw [List.mem_singleton] at he; subst he; exact h4 hh, by simp, by simp; omega⟩
  | false =>
   have e1 : exF q = [] := by unfold exF; rw [if_neg (by rw [h1]; decide), if_neg (by rw [h1, hh]; simp)]
   rw [e1]
   exact ⟨fun e he => by (cases he), by simp, by simp; omega⟩
 ·have e1 : exF q = [q.e] := by
    unfold exF
    rw [if_neg (by rcases h1 with h | h <;> rw [h] <;> decide), if_pos (.inl (by rcases h1 with h | h <;> rw [h] <;> decide))]
  rw [h2, e1]
  exact ⟨(fun e he => by cases he), by simp, fun e he => by rw [List.mem_singleton] at he; subst he; exact h3, by simp, by simp⟩
 ·have e1 : exF q = q.arms.flatMap fun a => a.unl.map Tr.e := by unfold exF; rw [if_pos h1]
  rw [h2, e1]
  have fin : (q.arms.flatMap fun a => a.unl.map Tr.e).length ≤ 9 := by
   have key : ∀ l : List Am, (∀ a ∈ l, a.unl.length ≤ 3) → (l.flatMap fun a => a.unl.map Tr.e).length ≤ l.length * 3 := by
    intro l
    induction l with
    | nil => intro _; simp
    | cons a l ih =>
     intro h
     have h1 := h a (List.mem_cons_self ..)
     have h2 := ih (fun x hx => h x (List.mem_cons_of_mem _ hx))
     rw [List.flatMap_cons, List.length_append, List.length_map, List.length_cons]; omega
   have := key q.arms (fun a ha => (h3 a ha).1)
   omega
  refine ⟨(fun e he => by cases he), by simp, fun e he => ?_, fin, by simpa using fin⟩
  obtain ⟨a, ha, h⟩ := List.mem_flatMap.1 he
  obtain ⟨t, ht, rfl⟩ := List.mem_map.1 h
  exact (h3 a ha).2 t ht
/-- What a block's call does to the reference's graph. -/
def BlCr (bl : BlT) (PB : List Str → List Va → List Qu → Prop) (cb pb : List Va → List Qu → Nat) (K : Nat) : Prop :=
 ∀ (S : List Str) (V : List Va) (Q : List Qu), PB S V Q → ∀ (mb : M) (gid : Nat) (g : Gs) (see : List Nat) (over : List Int) (O : Int → Prop) (B : Nat) (m : M), RGS mb gid g B m → EnvG g see S → g.vs.length + cb V Q < 2 ^ 29 → see.length + cb V Q < 2 ^ 29 → (∀ k ∈ over, k < (g.vs.length : Int)) → (∀ x, O x ↔ x ∈ over) → over.length + K ≤ 60000 → B + pb V Q ≤ 1000000000000 →
  ACalls Try.prog 19 [.bp gid 0, .sl .no (see.map pN), .ag [.sl .no (V.map Va.pv), .sl .no (Q.map Qu.pv)], .sl .no (over.map pI)] m (fun v m' => v = .tp [] ∧ RGS mb gid (bl g see V Q O) (B + pb V Q) m' ∧ Stp m m' ∧ Oth gid m m')
theorem RGS.mono {mb m : M} {gid B B' : Nat} {g : Gs} (h : RGS mb gid g B m) (hB : B ≤ B') : RGS mb gid g B' m := by
 obtain ⟨P, h1, h2, h3, h4⟩ := h.ex
 exact ⟨P, h1, by omega, h3, h4⟩
theorem rfind_S {mb m : M} {gid B : Nat} {g : Gs} {see : List Nat} (h : RGS mb gid g B m) (hs : ∀ i ∈ see, i < g.vs.length) (hl : see.length < 2 ^ 40) (s : Str) : ACalls Try.prog 33 [.bp gid 0, .sl .no (see.map pN), pS s] m (fun v m' => v = pI (fndN (nmG g) see s) ∧ m' = m) := by
 obtain ⟨P, q1, _⟩ := h.ex
 obtain ⟨o1, o2, o3, b, _⟩ := q1.box
 exact rfind_any gid o1 o2 o3 _ _ P see s m b (fun i hi => by rw [List.length_map]; exact hs i hi) hl
theorem rreads_S {mb m : M} {gid B : Nat} {g : Gs} {see : List Nat} (h : RGS mb gid g B m) (hs : ∀ i ∈ see, i < g.vs.length) (hl : see.length < 2 ^ 40) (l : List Int) (e : Ex) (he : CsX e) (hll : l.length < 2 ^ 40) : ACalls Try.prog 34 [.bp gid 0, .sl .no (l.map pI), .sl .no (see.map pN), e.pv] m (fun v m' => v = .sl .no ((rdIs (nmG g) see l [e]).map pI) ∧ m' = m) := by
 obtain ⟨P, q1, _⟩ := h.ex
 obtain ⟨o1, o2, o3, b, _⟩ := q1.box
 exact rreads_any gid o1 o2 o3 _ _ P l see e m b (fun i hi => by rw [List.length_map]; exact hs i hi) hl he.1 he.2 hll
theorem rneed_S {mb m : M} {gid B : Nat} {g : Gs} (h : RGS mb gid g B m) (i : Int) (l : List Int) {O : Int → Prop} (hi : i < (g.vs.length : Int)) (hl : ∀ k ∈ l, k < (g.vs.length : Int)) (hO : ∀ x, O x ↔ x ∈ l) (hB : B ≤ 1000000000000) (hll : l.length ≤ 60000) : ACalls Try.prog 32 [.bp gid 0, pI i, .sl .no (l.map pI)] m (fun v m' => v = .tp [] ∧ RGS mb gid (g.need i O) (B + l.length) m' ∧ Stp m m' ∧ Oth gid m m') := by
 obtain ⟨P, q1, q2, q3, q4⟩ := h.ex
 exact (rneed_any mb gid _ _ P i l m q1 (by omega)).mono fun v m' ⟨r1, r2, r3, r4⟩ => ⟨r1, RGS.need q2 q3 q4 r2 hi hl (fun k => hO k), r3, r4⟩
theorem rput_S {mb m : M} {gid B : Nat} {g : Gs} {see : List Nat} (h : RGS mb gid g B m) (hL : g.vs.length < 2 ^ 40) (hsl : see.length < 2 ^ 40) (v : Va) : ACalls Try.prog 18 [.bp gid 0, .sl .no (see.map pN), v.pv] m (fun x m' => x = .sl .no ((see ++ [g.vs.length]).map pN) ∧ RGS mb gid (g.put v) B m' ∧ Stp m m' ∧ Oth gid m m') := by
 obtain ⟨P, q1, q2, q3, q4⟩ := h.ex
 have hp := rputO_any mb gid (nmG g) (g.vs.map fun v => (v.line, v.col)) P see v m q1 (by simp; omega) (by simp) hsl
 rw [show (nmG g).length = g.vs.length by simp] at hp
 exact hp.mono fun x m' ⟨r1, r2, r3, r4⟩ => ⟨r1, RGS.put q2 q3 q4 r2, r3, r4⟩
theorem pcQ_ge {S : List Str} {q : Qu} (hdl : ∀ V Q T, PD V Q T → T.length ≤ 100 → ∀ x ∈ df V Q, x ∈ T) (h : CsQ df PB PD S q) : (dfQ df q).length * 60000 + (q.arms.map fun a => pb a.vars a.eqs).sum ≤ pcQ pb q := by
 have hd : (dfQ df q).length ≤ if q.arms.isEmpty = true then q.lhs.length else 200 := by
  obtain ⟨T, hT1, hT2⟩ := h.2.1
  split
  ·rename_i he
   have : q.arms = [] := by simpa using he
   have e : dfQ df q = q.lhs := by unfold dfQ dfA; rw [this]; rfl
   rw [e]; exact Nat.le_refl _
  ·have := ((Grow.nil q.lhs T).dfA (df := df) (ar := q.arms) (fun a ha => hdl _ _ _ (hT2.2.2 a ha) hT1)).len
   have h2 := hT2.1
   show (dfA df q.lhs q.arms).length ≤ 200
   omega
 unfold pcQ
 have h3 := Nat.mul_le_mul_right 60000 hd
 exact Nat.add_le_add_right h3 _
end
end Go.Proofs.Ytaealemhegdmpaa

/-
 The reference's graph (layer 11): blocks, walked.
-/
set_option linter.unusedVariables false
set_option linter.unusedSimpArgs false
namespace Go.Proofs.Ytaealemhegdmpaa
open Nat renaming reduceEqDiff → jA, reduceAdd → jB, reduceMul → jC, reduceLT → jD, reduceLeDiff → jE, reduceBEq → jF, reduceBNe → jG
open Int renaming reduceLE → jH, reduceLT → jI, reduceToNat → jJ, reduceEq → jK
open Go
-- EXX: Qu.settle_pv, Qu.pure_pv, Qu.cells_pv, Qu.cs, Am.settle_pv, Am.pure_pv, Am.cells_pv, Am.cs, Tr.settle_pv, Tr.pure_pv, Tr.cells_pv, Tr.cs
set_option maxRecDepth 20000
-- TNAMES: int; uint8; int32; string; bool; []string; []api.Expr; api.Expr; api.Pos; []api.Pos; api.Type; api.On; []api.On; api.Var; []api.Var; api.Equation; []api.Equation; api.Block; api.Trans; []api.Trans; api.Arm; []api.Arm; []int; [2]int; [][2]int; []bool; [][]bool; metronomeref11.Graph; *metronomeref11.Graph


section
variable {df : DfT} {bl : BlT} {PB : List Str → List Va → List Qu → Prop} {PD : List Va → List Qu → List Str → Prop} {cb pb : List Va → List Qu → Nat} {K : Nat}
set_option maxHeartbeats 8000000 in
theorem rblock_step (hPD : ∀ V Q T, PD V Q T → T.length ≤ 100 → DBC df V Q T) (hPR : ∀ V Q T, PD V Q T → T.length ≤ 100 → DBR df V Q) (hbl : BlCr bl PB cb pb K) (hbv : BlV bl cb) : BlCr (gBlk df bl) (CsBs df PB PD) (cntBl cb) (pcBl pb) (K + 10000) := by
 intro S V Q hB mb gid g see over O B m hg he hn hs hov hO hK hBp
 obtain ⟨hck, hqs⟩ := hB
 obtain ⟨hv1, hv2, hv3⟩ := gVars_eq V g see
 have hcV : V.length ≤ cntBl cb V Q := by unfold cntBl; omega
 have hpcB : pcBl pb V Q = 10 * V.length + (Q.map (pcQ pb)).sum := rfl
 rw [hpcB] at hBp ⊢
 unfold gBlk
 refine ACalls.enter (mu := [12]) ok_mix Try.func19 rfl (by kernel_rfl) (by kernel_rfl) (by simp only [List.length_cons, List.length_nil, Try.ntmps19]; omega) ?_
 (repeat (first | refine aSeq fun X hX => ?_ | refine aBlk ?_ | refine aReg ?_; simp -implicitDefEqProofs only [↓slp, slb, ↓reduceIte, jF] | apply hX; clear hX X))
 obtain ⟨I, hI⟩ : ∃ I : F → M → Prop, ∀ f m', I f m' = (∃ k : Nat, k ≤ V.length ∧ f 0 = .bp gid 0 ∧ f 1 = .sl .no ((gVars (g, see) (V.take k)).2.map pN) ∧ f 3 = .sl .no (over.map pI) ∧ f 6 = .ep [.sl .no (V.map Va.pv), .sl .no (Q.map Qu.pv)] ∧ f 8 = pI k ∧ RGS mb gid (gVars (g, see) (V.take k)).1 B m' ∧ Stp m m' ∧ Oth gid m m') := ⟨_, fun _ _ => rfl⟩
 refine aLoop I (fun f m => V.length - numOf (f 8)) ?_ ?_
 ·rw [hI]; exact ⟨0, by omega, rfl, rfl, rfl, rfl, rfl, hg, Stp.refl m, Oth.refl gid m⟩
 intro f m' hrel
 rw [hI] at hrel
 obtain ⟨k, hk, f0, f1, f3, f6, f8, hg1, hst, hot⟩ := hrel
 cases c1 : decide ((k : Int) < (V.length : Int)) with
 | true =>
  have hlt : k < V.length := by simpa using c1
  have g0 := getD_map Va.pv V k hlt
  have hi : IntKind.i64.wrap ((k : Int) + 1) = ((k + 1 : Nat) : Int) := by rw [wrap64 (by omega)]; omega
  have hme : numOf (f 8) = k := by rw [f8]; exact Int.toNat_natCast k
  obtain ⟨hw1, hw2, hw3⟩ := gVars_eq (V.take k) g see
  have hnx := gVars_take (p := (g, see)) hlt
  have hwl1 : (gVars (g, see) (V.take k)).1.vs.length < 2 ^ 40 := by rw [hw1]; simp; omega
  have hwl2 : (gVars (g, see) (V.take k)).2.length < 2 ^ 40 := by rw [hw3]; simp; omega
  generalize gVars (g, see) (V.take k) = p at *
  have hp := rput_S hg1 hwl1 hwl2 V[k]
  (repeat (first | refine aSeq fun X hX => ?_ | refine aBlk ?_ | refine aSkip ?_ | (first | apply aReg | apply aIf); simp -implicitDefEqProofs only [↓slp, ↓reduceIte, reduceCtorEq, jA, jB, jE, jF, Y1, f0, f1, f6, f8, pI, c1, g0] | apply hX; clear hX X | intro hlen; unfold maxLen at hlen | apply And.intro; focus omega))
  refine callMS hp (by simp only [List.map_cons, List.map_nil, PV.settle, PV.settles]; rfl) ?_
  rintro v mc ⟨rfl, r1, r2, r3⟩
  simp -implicitDefEqProofs only [↓slp, slb, ↓reduceIte, jF]
  (repeat (first | refine aReg ?_; simp -implicitDefEqProofs only [↓slp, slb, ↓reduceIte, jA, jF, f8, pI, hi] | apply hX; clear hX X))
  rw [hI]
  exact ⟨⟨k + 1, hlt, f0, by rw [hnx]; rfl, f3, f6, rfl, by rw [hnx]; exact r1, hst.trans r2, hot.trans r3 hst.nb⟩, by omega⟩
 | false =>
  obtain rfl : k = V.length := by simp at c1; omega
  rw [List.take_length] at f1 hg1
  obtain ⟨g1, hg1'⟩ : ∃ g1, (gVars (g, see) V).1 = g1 := ⟨_, rfl⟩
  obtain ⟨see1, hs1'⟩ : ∃ see1, (gVars (g, see) V).2 = see1 := ⟨_, rfl⟩
  rw [hg1'] at hv1 hg1
  rw [hs1'] at hv3 f1
  rw [hg1', hs1']
  have he1 : EnvG g1 see1 (S ++ V.map Va.name) := by
   refine ⟨fun i hi => ?_, ?_⟩
   ·rw [hv3] at hi
    rw [hv1, List.length_append, List.length_map]
    rcases List.mem_append.1 hi with hi | hi
    ·have := he.lt i hi; omega
    ·obtain ⟨j, hj, rfl⟩ := List.mem_map.1 hi
     have := List.mem_range.1 hj
     omega
   ·have e0 : nmG g1 = nmG g ++ V.map Va.name := by unfold nmG; rw [hv1, List.map_append, List.map_map]; rfl
    rw [e0, hv3]
    unfold seeNm
    rw [List.map_append]
    have h1 := seeNm_ext (nmG g) (V.map Va.name) see he.ltN
    unfold seeNm at h1
    rw [h1]
    have h2 := he.nm
    unfold seeNm at h2
    rw [h2]
    congr 1
    refine List.ext_getElem (by simp) fun j h3 h4 => ?_
    simp only [List.getElem_map, List.getElem_range]
    have h5 : (nmG g).length = g.vs.length := List.length_map _
    rw [List.getD, List.getElem?_append_right (by omega), h5, Nat.add_sub_cancel_left]
    have h6 : j < V.length := by simpa using h3
    simp [h6]
  have hl1 : g1.vs.length = g.vs.length + V.length := by rw [hv1]; simp
  have hl2 : see1.length = see.length + V.length := by rw [hv3]; simp
  have hgd1 := fun s => fndN_lt he1.ltN s
  simp only [List.length_map] at hgd1
  (repeat (first | refine aSeq fun X hX => ?_ | refine aBlk ?_ | refine aExit ?_; try simp only [slx, ↓reduceIte, jA, reduceCtorEq] | (first | apply aReg | apply aIf); simp -implicitDefEqProofs only [↓slp, ↓reduceIte, reduceCtorEq, jA, jB, jE, jF, Y1, f6, f8, pI, c1] | apply hX; clear hX X | clear hX X; apply hX; clear hX X | intro hlen; unfold maxLen at hlen))
  clear I hI
  obtain ⟨I, hI⟩ : ∃ I : F → M → Prop, ∀ f m', I f m' = (∃ k : Nat, k ≤ V.length ∧ f 0 = .bp gid 0 ∧ f 1 = .sl .no (see1.map pN) ∧ f 3 = .sl .no (over.map pI) ∧ f 6 = .ep [.sl .no (V.map Va.pv), .sl .no (Q.map Qu.pv)] ∧ f 9 = pI k ∧ RGS mb gid (gCk see1 g1 (V.take k)) (B + k * 10) m' ∧ Stp m m' ∧ Oth gid m m') := ⟨_, fun _ _ => rfl⟩
  refine aLoop I (fun f m => V.length - numOf (f 9)) ?_ ?_
  ·rw [hI]; exact ⟨0, by omega, f0, f1, f3, f6, rfl, hg1, hst, hot⟩
  clear f0 f1 f3 f6 f8 hg1 hst hot
  intro f m' hrel
  rw [hI] at hrel
  obtain ⟨k, hk, f0, f1, f3, f6, f9, hg2, hst, hot⟩ := hrel
  cases c2 : decide ((k : Int) < (V.length : Int)) with
  | true =>
   have hlt : k < V.length := by simpa using c2
   have g0 := getD_map Va.pv V k hlt
   have hi : IntKind.i64.wrap ((k : Int) + 1) = ((k + 1 : Nat) : Int) := by rw [wrap64 (by omega)]; omega
   have hme : numOf (f 9) = k := by rw [f9]; exact Int.toNat_natCast k
   have hnx := gCk_take (see := see1) (g := g1) hlt
   have hvs := gCk_vs see1 (V.take k) g1
   have hckl := hck _ (List.getElem_mem hlt)
   have he2 : EnvG (gCk see1 g1 (V.take k)) see1 (S ++ V.map Va.name) := he1.same hvs
   have e2 : nmG (gCk see1 g1 (V.take k)) = nmG g1 := by unfold nmG; rw [hvs]
   generalize hgk : gCk see1 g1 (V.take k) = g2 at *
   generalize V[k] = v at *
   (repeat (first | refine aSeq fun X hX => ?_ | refine aBlk ?_ | refine aSkip ?_ | (first | apply aReg | apply aIf); simp -implicitDefEqProofs only [↓slp, ↓reduceIte, reduceCtorEq, jA, jB, jE, jF, Y1, f6, f9, pI, c2] | apply hX; clear hX X | intro hlen; unfold maxLen at hlen))
   obtain ⟨J, hJ⟩ : ∃ J : F → M → Prop, ∀ f m', J f m' = (∃ j : Nat, j ≤ v.clock.length ∧ f 0 = .bp gid 0 ∧ f 1 = .sl .no (see1.map pN) ∧ f 3 = .sl .no (over.map pI) ∧ f 6 = .ep [.sl .no (V.map Va.pv), .sl .no (Q.map Qu.pv)] ∧ f 9 = pI k ∧ f 10 = pI j ∧ RGS mb gid (gCk1 see1 v g2 (v.clock.take j)) (B + k * 10 + j) m' ∧ Stp m m' ∧ Oth gid m m') := ⟨_, fun _ _ => rfl⟩
   refine aLoop J (fun f m => v.clock.length - numOf (f 10)) ?_ ?_
   ·rw [hJ]; exact ⟨0, by omega, f0, f1, f3, f6, f9, rfl, hg2, hst, hot⟩
   clear f0 f1 f3 f6 f9 hg2 hst hot
   intro f m' hrel
   rw [hJ] at hrel
   obtain ⟨j, hj, f0, f1, f3, f6, f9, f10, hg3, hst, hot⟩ := hrel
   cases c3 : decide ((j : Int) < (v.clock.length : Int)) with
   | true =>
    have hltj : j < v.clock.length := by simpa using c3
    have gj := getD_map On.pv v.clock j hltj
    have hij : IntKind.i64.wrap ((j : Int) + 1) = ((j + 1 : Nat) : Int) := by rw [wrap64 (by omega)]; omega
    have hmej : numOf (f 10) = j := by rw [f10]; exact Int.toNat_natCast j
    have hnj := gCk1_take (see := see1) (v := v) (g := g2) hltj
    have hvj := gCk1_vs see1 v (v.clock.take j) g2
    have he3 : EnvG (gCk1 see1 v g2 (v.clock.take j)) see1 (S ++ V.map Va.name) := he2.same hvj
    have e3 : nmG (gCk1 see1 v g2 (v.clock.take j)) = nmG g1 := by unfold nmG at e2 ⊢; rw [hvj, e2]
    have hl3 : (gCk1 see1 v g2 (v.clock.take j)).vs.length = g1.vs.length := by rw [hvj, hvs]
    rw [e2] at hnj
    have hfd := fun s => rfind_S hg3 he3.lt (by omega) s
    rw [e3] at hfd
    have hfa := hfd v.name
    have hfb := hfd v.clock[j].var
    have hnd := rneed_S hg3 (fndN (nmG g1) see1 v.name) [fndN (nmG g1) see1 v.clock[j].var] (O := fun x => x = fndN (nmG g1) see1 v.clock[j].var) (by rw [hl3]; exact hgd1 _) (fun k hk => by rw [List.mem_singleton] at hk; subst hk; rw [hl3]; exact hgd1 _) (fun x => by rw [List.mem_singleton]) (by omega) (by simp)
    generalize v.clock[j] = oc at *
    (repeat (first | refine aSeq fun X hX => ?_ | refine aBlk ?_ | refine aSkip ?_ | (first | apply aReg | apply aIf); simp -implicitDefEqProofs only [↓slp, ↓reduceIte, reduceCtorEq, jA, jB, jE, jF, Y1, f6, f9, f10, pI, c3, g0, hlt] | apply hX; clear hX X | intro hlen; unfold maxLen at hlen))
    refine aDrw (fun _ => True) (by kernel_rfl) trivial ?_; simp -implicitDefEqProofs only [↓slp, ↓reduceIte, reduceCtorEq, jA, jB, jE, jF, Y1, f0, f1, f6, f9, pI, g0, hlt]
    refine callM hfa ?_
    rintro w mc ⟨rfl, rfl⟩
    simp -implicitDefEqProofs only [↓slp, ↓reduceIte, reduceCtorEq, jA, jB, jE, jF, Y1, f0, f1, f6, f9, f10, pI, g0, gj, hlt, hltj, On.pv]
    refine callM hfb ?_
    rintro w mc ⟨rfl, rfl⟩
    simp -implicitDefEqProofs only [↓slp, ↓reduceIte, jA, jB, jC, jE, jF, Y1, pI]
    refine callMS hnd (by simp only [List.map_cons, List.map_nil, PV.settle]) ?_
    rintro w me ⟨rfl, r1, r2, r3⟩
    refine ⟨trivial, ?_⟩
    (repeat (first | refine aReg ?_; simp -implicitDefEqProofs only [↓slp, slb, ↓reduceIte, jA, jF, f10, pI, hij] | apply hX; clear hX X))
    rw [hJ]
    exact ⟨⟨j + 1, hltj, f0, f1, f3, f6, f9, rfl, by rw [hnj]; exact r1.mono (by simp; omega), hst.trans r2, hot.trans r3 hst.nb⟩, by omega⟩
   | false =>
    obtain rfl : j = v.clock.length := by simp at c3; omega
    rw [List.take_length, ← hnx] at hg3
    (repeat (first | refine aSeq fun X hX => ?_ | refine aExit ?_; try simp only [slx, ↓reduceIte, jA, reduceCtorEq] | (first | apply aReg | apply aIf); simp -implicitDefEqProofs only [↓slp, ↓reduceIte, reduceCtorEq, jA, jB, jE, jF, Y1, f6, f9, f10, pI, c3, hi, g0, hlt] | apply hX; clear hX X | clear hX X; apply hX; clear hX X | intro hlen; unfold maxLen at hlen))
    rw [hI]
    exact ⟨⟨k + 1, hlt, f0, f1, f3, f6, rfl, hg3.mono (by omega), hst, hot⟩, by omega⟩
  | false =>
   obtain rfl : k = V.length := by simp at c2; omega
   rw [List.take_length] at hg2
   have hvs := gCk_vs see1 V g1
   have he2 : EnvG (gCk see1 g1 V) see1 (S ++ V.map Va.name) := he1.same hvs
   generalize hgf : gCk see1 g1 V = g2 at *
   have hcQ : cntBl cb V Q = V.length + (Q.map (cntQ cb)).sum := rfl
   (repeat (first | refine aSeq fun X hX => ?_ | refine aBlk ?_ | refine aExit ?_; try simp only [slx, ↓reduceIte, jA, reduceCtorEq] | (first | apply aReg | apply aIf); simp -implicitDefEqProofs only [↓slp, ↓reduceIte, reduceCtorEq, jA, jB, jE, jF, Y1, f6, f9, pI, c2] | apply hX; clear hX X | clear hX X; apply hX; clear hX X | intro hlen; unfold maxLen at hlen))
   clear I hI
   obtain ⟨I, hI⟩ : ∃ I : F → M → Prop, ∀ f m', I f m' = (∃ k : Nat, k ≤ Q.length ∧ f 0 = .bp gid 0 ∧ f 1 = .sl .no (see1.map pN) ∧ f 3 = .sl .no (over.map pI) ∧ f 6 = .ep [.sl .no (V.map Va.pv), .sl .no (Q.map Qu.pv)] ∧ f 11 = pI k ∧ RGS mb gid ((Q.take k).foldl (gEq df bl see1 O) g2) (B + V.length * 10 + ((Q.take k).map (pcQ pb)).sum) m' ∧ Stp m m' ∧ Oth gid m m') := ⟨_, fun _ _ => rfl⟩
   refine aLoop I (fun f m => Q.length - numOf (f 11)) ?_ ?_
   ·rw [hI]; exact ⟨0, by omega, f0, f1, f3, f6, rfl, hg2, hst, hot⟩
   clear f0 f1 f3 f6 f9 hg2 hst hot
   intro f m' hrel
   rw [hI] at hrel
   obtain ⟨k, hk, f0, f1, f3, f6, f11, hg3, hst, hot⟩ := hrel
   cases c3 : decide ((k : Int) < (Q.length : Int)) with
   | false =>
    obtain rfl : k = Q.length := by simp at c3; omega
    rw [List.take_length] at hg3
    (repeat (first | refine aSeq fun X hX => ?_ | refine aExit ?_; try simp only [slx, ↓reduceIte, jA, reduceCtorEq] | (first | apply aReg | apply aIf); simp -implicitDefEqProofs only [↓slp, ↓reduceIte, reduceCtorEq, jA, jB, jE, jF, Y1, f6, f11, pI, c3] | apply hX; clear hX X | intro hlen; unfold maxLen at hlen))
    simp only [aPost, Try.results19, aRes_n, aRes_t, aRes_c, pack_one, pack_two]
    exact leave_stp hst rfl ⟨rfl, by rw [hg1', hs1', hgf]; exact hg3.mono (by omega), hst, hot⟩
   | true =>
    have hlt : k < Q.length := by simpa using c3
    have g0 := getD_map Qu.pv Q k hlt
    have hme : numOf (f 11) = k := by rw [f11]; exact Int.toNat_natCast k
    have hnx := gEqs_take (df := df) (bl := bl) (see := see1) (O := O) (g := g2) hlt
    have hnp : ((Q.take (k + 1)).map (pcQ pb)).sum = ((Q.take k).map (pcQ pb)).sum + pcQ pb Q[k] := by rw [List.take_succ_eq_append_getElem hlt, List.map_append, List.sum_append, List.map_singleton, List.sum_singleton]
    obtain ⟨ms, hms, hml⟩ := gEqs_vs (df := df) hbv see1 O (Q.take k) g2
    have hs1 := sum_take1 (Q.map (cntQ cb)) k (by simpa using hlt)
    rw [← List.map_take, List.getElem_map] at hs1
    have hs2 := sum_take1 (Q.map (pcQ pb)) k (by simpa using hlt)
    rw [← List.map_take, List.getElem_map] at hs2
    have hvl : ((Q.take k).foldl (gEq df bl see1 O) g2).vs.length = g1.vs.length + ms.length := by rw [hms, List.length_append, hvs]
    have hq := hqs _ (List.getElem_mem hlt)
    have he3 : EnvG ((Q.take k).foldl (gEq df bl see1 O) g2) see1 (S ++ V.map Va.name) := he2.ext hms
    generalize (Q.take k).foldl (gEq df bl see1 O) g2 = g3 at *
    generalize Q[k] = q at *
    obtain ⟨ra1, ra2, rf1, rf2, rf3⟩ := hq.rd
    have hpq := pcQ_ge (pb := pb) (fun V Q T h hT => (hPD V Q T h hT).1.1) hq
    obtain ⟨hdS, ⟨T, hT1, hT2⟩, hal3, har, _⟩ := hq
    have hm1 : m'.ext [some [.v (.int .u8 q.kind), .sl .no (q.lhs.map pS), .v (.string q.name), .sl .no (q.args.map Ex.pv), .v (.bool q.has), .v (.int .u8 q.e.kind), .v (.int .u8 q.e.op), .v (.int .i32 q.e.n), .v (.string q.e.name), .sl .no (q.e.names.map pS), .sl .no (q.e.kids.map Ex.pv), .v (.int .i64 q.e.line), .v (.int .i64 q.e.col), .sl .no (q.arms.map Am.pv), .v (.int .i64 q.line), .v (.int .i64 q.col)]] = m'.push q.cs := rfl
    (repeat (first | refine aSeq fun X hX => ?_ | refine aSkip ?_ | (first | apply aReg | apply aIf); simp -implicitDefEqProofs only [↓slp, ↓reduceIte, reduceCtorEq, jA, jB, jE, jF, Y1, f3, f6, f11, pI, c3, g0] | apply hX; clear hX X | intro hlen; unfold maxLen at hlen | apply And.intro; focus omega))
    have hi : IntKind.i64.wrap ((k : Int) + 1) = ((k + 1 : Nat) : Int) := by rw [wrap64 (by omega)]; omega
    rw [hm1]
    have r1 := hg3.push q.cs
    have b12 : (m'.push q.cs).get m'.nb = some q.cs := by rw [M.get_push, if_pos rfl]
    have hst1 : Stp m (m'.push q.cs) := hst.trans (Stp.push m' (fun y hy => by
     simp only [Qu.cs, List.mem_cons, List.not_mem_nil, or_false] at hy
     rcases hy with rfl | rfl | rfl | rfl | rfl | rfl | rfl | rfl | rfl | rfl | rfl | rfl | rfl | rfl | rfl | rfl <;> rfl))
    have hot1 : Oth gid m (m'.push q.cs) := hot.trans (Oth.push gid m' q.cs) hst.nb
    have hgn : m'.nb ≠ gid := by
     obtain ⟨P, q1, _⟩ := hg3.ex
     have := q1.glt; omega
    clear hm1 hg3 hst hot
    generalize m'.push q.cs = m1 at *
    generalize m'.nb = bid at *
    have hrS := fun (l : List Int) (e : Ex) (he : CsX e) (hl : l.length < 2 ^ 40) => rreads_S r1 he3.lt (by omega) l e he hl
    have hRl := fun (es : List Ex) (h : ∀ e ∈ es, CsX e) => rdIs_len (nmG g3) see1 es over (fun e he => (h e he).2)
    have join : ∀ f : F, f 0 = .bp gid 0 → f 1 = .sl .no (see1.map pN) → f 3 = .sl .no (over.map pI) → f 6 = .ep [.sl .no (V.map Va.pv), .sl .no (Q.map Qu.pv)] → f 11 = pI k → f 12 = .bp bid 0 → f 13 = .sl .no ((rdIs (nmG g3) see1 over (exF q)).map pI) → X f m1 := by
     clear f0 f1 f3 f6 f11
     intro f f0 f1 f3 f6 f11 f12 f13
     refine hX _ _ ?_
     clear hX X
     (repeat (first | refine aSeq fun X hX => ?_ | refine aBlk ?_ | refine aReg ?_; simp -implicitDefEqProofs only [↓slp, slb, jF] | apply hX; clear hX X))
     obtain ⟨J, hJ⟩ : ∃ J : F → M → Prop, ∀ f m2, J f m2 = (∃ j : Nat, j ≤ q.args.length ∧ f 0 = .bp gid 0 ∧ f 1 = .sl .no (see1.map pN) ∧ f 3 = .sl .no (over.map pI) ∧ f 6 = .ep [.sl .no (V.map Va.pv), .sl .no (Q.map Qu.pv)] ∧ f 11 = pI k ∧ f 12 = .bp bid 0 ∧ f 13 = .sl .no ((rdIs (nmG g3) see1 over (exF q ++ q.args.take j)).map pI) ∧ f 16 = pI j ∧ m2 = m1) := ⟨_, fun _ _ => rfl⟩
     refine aLoop J (fun f m => q.args.length - numOf (f 16)) ?_ ?_
     ·rw [hJ]; exact ⟨0, by omega, f0, f1, f3, f6, f11, f12, by rw [List.take_zero, List.append_nil]; exact f13, rfl, rfl⟩
     clear f0 f1 f3 f6 f11 f12 f13
     intro f m2 hrel
     rw [hJ] at hrel
     obtain ⟨j, hj, f0, f1, f3, f6, f11, f12, f13, f16, rfl⟩ := hrel
     cases c4 : decide ((j : Int) < (q.args.length : Int)) with
     | true =>
      have hltj : j < q.args.length := by simpa using c4
      have gj := getD_map Ex.pv q.args j hltj
      have hij : IntKind.i64.wrap ((j : Int) + 1) = ((j + 1 : Nat) : Int) := by rw [wrap64 (by omega)]; omega
      have hmej : numOf (f 16) = j := by rw [f16]; exact Int.toNat_natCast j
      have hnj : rdIs (nmG g3) see1 over (exF q ++ q.args.take (j + 1)) = rdIs (nmG g3) see1 (rdIs (nmG g3) see1 over (exF q ++ q.args.take j)) [q.args[j]] := by rw [List.take_succ_eq_append_getElem hltj, ← List.append_assoc, rdIs_app]
      have hlj := hRl (exF q ++ q.args.take j) (fun e he => (List.mem_append.1 he).elim (rf1 e) (fun h => ra1 e (List.mem_of_mem_take h)))
      rw [List.length_append, List.length_take] at hlj
      have hrd := hrS (rdIs (nmG g3) see1 over (exF q ++ q.args.take j)) q.args[j] (ra1 _ (List.getElem_mem hltj)) (by omega)
      (repeat (first | refine aSeq fun X hX => ?_ | refine aBlk ?_ | refine aSkip ?_ | (first | apply aReg | apply aIf); simp -implicitDefEqProofs only [↓slp, ↓reduceIte, reduceCtorEq, jA, jB, jD, jE, jF, Y1, f0, f1, f12, f13, f16, pI, b12, c4, gj]; try simp only [fo] | apply hX; clear hX X | intro hlen; unfold maxLen at hlen | apply And.intro; focus omega))
      refine callMS hrd (by simp only [List.map_cons, List.map_nil, PV.settle, PV.settles, Ex.settle_pv]) ?_
      rintro v mc ⟨rfl, rfl⟩
      simp -implicitDefEqProofs only [↓slp, slb, ↓reduceIte, jF]; try simp only [fo]
      (repeat (first | refine aReg ?_; simp -implicitDefEqProofs only [↓slp, ↓reduceIte, jA, jF, Y1, f16, pI, hij]; try simp only [fo] | apply hX; clear hX X))
      rw [hJ]
      exact ⟨⟨j + 1, hltj, f0, f1, f3, f6, f11, f12, by rw [hnj]; rfl, rfl, rfl⟩, by omega⟩
     | false =>
      obtain rfl : j = q.args.length := by simp at c4; omega
      rw [List.take_length, ← exQ_eq] at f13
      have hRl2 := hRl (exQ q) (fun e he => by rw [exQ_eq] at he; exact (List.mem_append.1 he).elim (rf1 e) (ra1 e))
      have hRm : ∀ x, (fun x => O x ∨ x ∈ rdL (nmG g3) see1 (exQ q)) x ↔ x ∈ rdIs (nmG g3) see1 over (exQ q) := fun x => by rw [rdIs_mem, ← hO]
      have hRb : ∀ x ∈ rdIs (nmG g3) see1 over (exQ q), x < (g3.vs.length : Int) := fun x hx => by
       rcases (rdIs_mem _ _ _ _ x).1 hx with h | h
       ·have := hov x h; omega
       ·have := rdL_lt he3.ltN (exQ q) x h
        rwa [List.length_map] at this
      have hgq : gEq df bl see1 O g3 q = gArms bl see1 (fun x => O x ∨ x ∈ rdL (nmG g3) see1 (exQ q)) (gDef see1 (fun x => O x ∨ x ∈ rdL (nmG g3) see1 (exQ q)) g3 (dfQ df q)) q.arms := rfl
      have hxl : (exQ q).length ≤ 9 := by rw [exQ_eq, List.length_append]; exact rf3
      rw [hgq] at hnx
      have hdef := rdefines_step hPD hPR q T hT1 hT2 m2
      have hDl : (dfQ df q).length ≤ 200 := by
       have := ((Grow.nil q.lhs T).dfA (df := df) (ar := q.arms) (fun a ha => (hPD _ _ _ (hT2.2.2 a ha) hT1).1.1)).len
       have h2 := hT2.1
       show (dfA df q.lhs q.arms).length ≤ 200
       omega
      clear hRl hgq
      generalize (fun x => O x ∨ x ∈ rdL (nmG g3) see1 (exQ q)) = O1 at *
      generalize rdIs (nmG g3) see1 over (exQ q) = R at *
      generalize dfQ df q = D at *
      have b12' := b12
      rw [Qu.pv_eq] at hdef
      unfold Qu.cs at hdef b12'
      (repeat (first | refine aSeq fun X hX => ?_ | refine aExit ?_; try simp only [slx, ↓reduceIte, jA, reduceCtorEq] | (first | apply aReg | apply aIf); simp -implicitDefEqProofs only [↓slp, ↓reduceIte, reduceCtorEq, jA, jB, jD, jE, jF, Y1, f12, f16, pI, b12', c4] | apply hX; clear hX X | clear hX X; apply hX; clear hX X | intro hlen; unfold maxLen at hlen))
      refine callM hdef ?_
      rintro v m2 ⟨rfl, rfl⟩
      simp -implicitDefEqProofs only [↓slp, slb, ↓reduceIte, jF]
      (repeat (first | refine aSeq fun X hX => ?_ | refine aBlk ?_ | refine aReg ?_; simp -implicitDefEqProofs only [↓slp, slb, jF] | apply hX; clear hX X))
      obtain ⟨L, hL⟩ : ∃ L : F → M → Prop, ∀ f m3, L f m3 = (∃ j : Nat, j ≤ D.length ∧ f 0 = .bp gid 0 ∧ f 1 = .sl .no (see1.map pN) ∧ f 3 = .sl .no (over.map pI) ∧ f 6 = .ep [.sl .no (V.map Va.pv), .sl .no (Q.map Qu.pv)] ∧ f 11 = pI k ∧ f 12 = .bp bid 0 ∧ f 13 = .sl .no (R.map pI) ∧ f 17 = .sl .no (D.map pS) ∧ f 18 = pI j ∧ RGS mb gid (gDef see1 O1 g3 (D.take j)) (B + V.length * 10 + ((Q.take k).map (pcQ pb)).sum + j * 60000) m3 ∧ Stp m m3 ∧ Oth gid m m3 ∧ m3.get bid = some q.cs) := ⟨_, fun _ _ => rfl⟩
      refine aLoop L (fun f m => D.length - numOf (f 18)) ?_ ?_
      ·rw [hL]; exact ⟨0, by omega, f0, f1, f3, f6, f11, f12, f13, rfl, rfl, r1, hst1, hot1, b12⟩
      clear f0 f1 f3 f6 f11 f12 f13 f16 r1 hst1 hot1 b12 b12' hrS hJ J hdef
      intro f m3 hrel
      rw [hL] at hrel
      obtain ⟨j, hj, f0, f1, f3, f6, f11, f12, f13, f17, f18, hg4, hst, hot, b12⟩ := hrel
      cases c5 : decide ((j : Int) < (D.length : Int)) with
      | true =>
       have hltj : j < D.length := by simpa using c5
       have gj := getD_map pS D j hltj
       have hij : IntKind.i64.wrap ((j : Int) + 1) = ((j + 1 : Nat) : Int) := by rw [wrap64 (by omega)]; omega
       have hmej : numOf (f 18) = j := by rw [f18]; exact Int.toNat_natCast j
       have hnj := gDef_take (see := see1) (O := O1) (g := g3) hltj
       have hvj := gDef_vs see1 O1 (D.take j) g3
       have he4 : EnvG (gDef see1 O1 g3 (D.take j)) see1 (S ++ V.map Va.name) := he3.same hvj
       have e1 : nmG (gDef see1 O1 g3 (D.take j)) = nmG g3 := by unfold nmG; rw [hvj]
       have hfd := rfind_S hg4 he4.lt (by omega) D[j]
       have hfl := fndN_lt he4.ltN D[j]
       rw [List.length_map] at hfl
       have hnd := rneed_S hg4 (fndN (nmG g3) see1 D[j]) R (O := O1) (by rw [← e1]; exact hfl) (by rw [hvj]; exact hRb) hRm (by omega) (by omega)
       rw [e1] at hfd
       have hbl3 : bid < m3.nb := M.get_lt b12
       (repeat (first | refine aSeq fun X hX => ?_ | refine aBlk ?_ | refine aSkip ?_ | (first | apply aReg | apply aIf); simp -implicitDefEqProofs only [↓slp, ↓reduceIte, reduceCtorEq, jA, jB, jF, Y1, f0, f1, f17, f18, pI, pS, c5, gj] | apply hX; clear hX X | intro hlen; unfold maxLen at hlen | apply And.intro; focus omega))
       refine callM hfd ?_
       rintro v mc ⟨rfl, rfl⟩
       simp -implicitDefEqProofs only [↓slp, slb, ↓reduceIte, jA, jF, f13, pI]
       refine callM hnd ?_
       rintro v mc ⟨rfl, s1, s2, s3⟩
       simp -implicitDefEqProofs only [slb]
       (repeat (first | refine aReg ?_; simp -implicitDefEqProofs only [↓slp, slb, ↓reduceIte, jA, jF, f18, pI, hij] | apply hX; clear hX X))
       rw [hL]
       exact ⟨⟨j + 1, hltj, f0, f1, f3, f6, f11, f12, f13, f17, rfl, by rw [hnj]; exact s1.mono (by omega), hst.trans s2, hot.trans s3 hst.nb, (s3 bid hgn hbl3).trans b12⟩, by omega⟩
      | false =>
       obtain rfl : j = D.length := by simp at c5; omega
       rw [List.take_length] at hg4
       have hvd := gDef_vs see1 O1 D g3
       have he4 : EnvG (gDef see1 O1 g3 D) see1 (S ++ V.map Va.name) := he3.same hvd
       generalize gDef see1 O1 g3 D = g4 at *
       have hcq : cntQ cb q = (q.arms.map fun a => cb a.vars a.eqs).sum := rfl
       (repeat (first | refine aSeq fun X hX => ?_ | refine aBlk ?_ | refine aExit ?_; try simp only [slx, ↓reduceIte, jA, reduceCtorEq] | (first | apply aReg | apply aIf); simp -implicitDefEqProofs only [↓slp, ↓reduceIte, jA, jF, Y1, f17, f18, pI, c5] | apply hX; clear hX X | clear hX X; apply hX; clear hX X | intro hlen; unfold maxLen at hlen))
       clear L hL
       obtain ⟨L, hL⟩ : ∃ L : F → M → Prop, ∀ f m3, L f m3 = (∃ j : Nat, j ≤ q.arms.length ∧ f 0 = .bp gid 0 ∧ f 1 = .sl .no (see1.map pN) ∧ f 3 = .sl .no (over.map pI) ∧ f 6 = .ep [.sl .no (V.map Va.pv), .sl .no (Q.map Qu.pv)] ∧ f 11 = pI k ∧ f 12 = .bp bid 0 ∧ f 13 = .sl .no (R.map pI) ∧ f 19 = pI j ∧ RGS mb gid (gArms bl see1 O1 g4 (q.arms.take j)) (B + V.length * 10 + ((Q.take k).map (pcQ pb)).sum + D.length * 60000 + ((q.arms.take j).map fun a => pb a.vars a.eqs).sum) m3 ∧ Stp m m3 ∧ Oth gid m m3 ∧ m3.get bid = some q.cs) := ⟨_, fun _ _ => rfl⟩
       refine aLoop L (fun f m => q.arms.length - numOf (f 19)) ?_ ?_
       ·rw [hL]; exact ⟨0, by omega, f0, f1, f3, f6, f11, f12, f13, rfl, hg4, hst, hot, b12⟩
       clear f0 f1 f3 f6 f11 f12 f13 f17 f18 hg4 hst hot b12
       intro f m3 hrel
       rw [hL] at hrel
       obtain ⟨j, hj, f0, f1, f3, f6, f11, f12, f13, f19, hg4, hst, hot, b12⟩ := hrel
       cases c6 : decide ((j : Int) < (q.arms.length : Int)) with
       | true =>
        have hltj : j < q.arms.length := by simpa using c6
        have gj := getD_map Am.pv q.arms j hltj
        have hij : IntKind.i64.wrap ((j : Int) + 1) = ((j + 1 : Nat) : Int) := by rw [wrap64 (by omega)]; omega
        have hmej : numOf (f 19) = j := by rw [f19]; exact Int.toNat_natCast j
        have hnj := gArms_take (bl := bl) (see := see1) (O := O1) (g := g4) hltj
        have hnp2 : ((q.arms.take (j + 1)).map fun a => pb a.vars a.eqs).sum = ((q.arms.take j).map fun a => pb a.vars a.eqs).sum + pb q.arms[j].vars q.arms[j].eqs := by rw [List.take_succ_eq_append_getElem hltj, List.map_append, List.sum_append, List.map_singleton, List.sum_singleton]
        obtain ⟨ms2, hms2, hml2⟩ := gArms_vs hbv see1 O1 (q.arms.take j) g4
        have hs3 := sum_take1 (q.arms.map fun a => cb a.vars a.eqs) j (by simpa using hltj)
        rw [← List.map_take, List.getElem_map] at hs3
        have hs4 := sum_take1 (q.arms.map fun a => pb a.vars a.eqs) j (by simpa using hltj)
        rw [← List.map_take, List.getElem_map] at hs4
        have hvl2 : (gArms bl see1 O1 g4 (q.arms.take j)).vs.length = g3.vs.length + ms2.length := by rw [hms2, List.length_append, hvd]
        have hbk := hbl _ q.arms[j].vars q.arms[j].eqs (har _ (List.getElem_mem hltj)) mb gid _ see1 R O1 _ m3 hg4 (he4.ext hms2) (by rw [hvl2]; omega) (by omega) (fun x hx => by rw [hvl2]; have := hRb x hx; omega) hRm (by omega) (by omega)
        have hbl3 : bid < m3.nb := M.get_lt b12
        have b12' := b12
        unfold Qu.cs at b12'
        (repeat (first | refine aSeq fun X hX => ?_ | refine aBlk ?_ | refine aSkip ?_ | (first | apply aReg | apply aIf); simp -implicitDefEqProofs only [↓slp, ↓reduceIte, reduceCtorEq, jA, jB, jD, jE, jF, Y1, f0, f1, f12, f13, f19, pI, b12', c6, gj] | apply hX; clear hX X | intro hlen; unfold maxLen at hlen | apply And.intro; focus omega))
        refine callM hbk ?_
        rintro v mc ⟨rfl, s1, s2, s3⟩
        simp -implicitDefEqProofs only [slb]
        (repeat (first | refine aReg ?_; simp -implicitDefEqProofs only [↓slp, slb, ↓reduceIte, jA, jF, f19, pI, hij] | apply hX; clear hX X))
        rw [hL]
        exact ⟨⟨j + 1, hltj, f0, f1, f3, f6, f11, f12, f13, rfl, by rw [hnj]; exact s1.mono (by omega), hst.trans s2, hot.trans s3 hst.nb, (s3 bid hgn hbl3).trans b12⟩, by omega⟩
       | false =>
        obtain rfl : j = q.arms.length := by simp at c6; omega
        rw [List.take_length] at hg4
        have b12' := b12
        unfold Qu.cs at b12'
        (repeat (first | refine aSeq fun X hX => ?_ | refine aExit ?_; try simp only [slx, ↓reduceIte, jA, reduceCtorEq] | (first | apply aReg | apply aIf); simp -implicitDefEqProofs only [↓slp, ↓reduceIte, reduceCtorEq, jA, jB, jD, jF, Y1, f11, f12, f19, pI, b12', c6, hi] | apply hX; clear hX X | clear hX X; apply hX; clear hX X | intro hlen; unfold maxLen at hlen))
        rw [hI]
        exact ⟨⟨k + 1, hlt, f0, f1, f3, f6, rfl, by rw [hnx]; exact hg4.mono (by omega), hst, hot⟩, by omega⟩
    refine ⟨fun c0 => ?_, fun c0 => ?_⟩
    ·have k4 : q.kind = 4 := by simpa using c0
     have e1 : exF q = q.arms.flatMap fun a => a.unl.map Tr.e := by unfold exF; rw [if_pos k4]
     rw [e1] at join rf1 rf2
     have b12' := b12
     unfold Qu.cs at b12'
     (repeat (first | refine aSeq fun X hX => ?_ | refine aBlk ?_ | refine aReg ?_; simp -implicitDefEqProofs only [↓slp, slb, jF] | apply hX; clear hX X))
     obtain ⟨J, hJ⟩ : ∃ J : F → M → Prop, ∀ f m2, J f m2 = (∃ j : Nat, j ≤ q.arms.length ∧ f 0 = .bp gid 0 ∧ f 1 = .sl .no (see1.map pN) ∧ f 3 = .sl .no (over.map pI) ∧ f 6 = .ep [.sl .no (V.map Va.pv), .sl .no (Q.map Qu.pv)] ∧ f 11 = pI k ∧ f 12 = .bp bid 0 ∧ f 13 = .sl .no ((rdIs (nmG g3) see1 over ((q.arms.take j).flatMap fun a => a.unl.map Tr.e)).map pI) ∧ f 14 = pI j ∧ m2 = m1) := ⟨_, fun _ _ => rfl⟩
     refine aLoop J (fun f m => q.arms.length - numOf (f 14)) ?_ ?_
     ·rw [hJ]; exact ⟨0, by omega, f0, f1, f3, f6, f11, rfl, rfl, rfl, rfl⟩
     clear f0 f1 f3 f6 f11
     intro f m2 hrel
     rw [hJ] at hrel
     obtain ⟨j, hj, f0, f1, f3, f6, f11, f12, f13, f14, rfl⟩ := hrel
     cases c4 : decide ((j : Int) < (q.arms.length : Int)) with
     | false =>
      obtain rfl : j = q.arms.length := by simp at c4; omega
      rw [List.take_length] at f13
      (repeat (first | refine aSeq fun X hX => ?_ | refine aExit ?_; try simp only [slx, ↓reduceIte, jA, reduceCtorEq] | (first | apply aReg | apply aIf); simp -implicitDefEqProofs only [↓slp, ↓reduceIte, reduceCtorEq, jA, jB, jD, jF, Y1, f12, f14, pI, b12', c4] | apply hX; clear hX X | intro hlen; unfold maxLen at hlen))
      exact join _ f0 f1 f3 f6 f11 f12 f13
     | true =>
      have hltj : j < q.arms.length := by simpa using c4
      have ga := getD_map Am.pv q.arms j hltj
      have hij : IntKind.i64.wrap ((j : Int) + 1) = ((j + 1 : Nat) : Int) := by rw [wrap64 (by omega)]; omega
      have hmej : numOf (f 14) = j := by rw [f14]; exact Int.toNat_natCast j
      have hnj : ((q.arms.take (j + 1)).flatMap fun a => a.unl.map Tr.e) = ((q.arms.take j).flatMap fun a => a.unl.map Tr.e) ++ q.arms[j].unl.map Tr.e := by
       rw [List.take_succ_eq_append_getElem hltj, List.flatMap_append]; simp
      have hsp : (q.arms.flatMap fun a => a.unl.map Tr.e) = ((q.arms.take j).flatMap fun a => a.unl.map Tr.e) ++ (q.arms[j].unl.map Tr.e ++ ((q.arms.drop (j + 1)).flatMap fun a => a.unl.map Tr.e)) := by
       conv => lhs; rw [← List.take_append_drop j q.arms, List.flatMap_append, List.drop_eq_getElem_cons hltj, List.flatMap_cons]
      have hspl := congrArg List.length hsp
      rw [List.length_append, List.length_append, List.length_map] at hspl
      have hB1 : ∀ e ∈ ((q.arms.take j).flatMap fun a => a.unl.map Tr.e), CsX e := fun e he => rf1 e (by rw [hsp]; exact List.mem_append_left _ he)
      have hB2 : ∀ t ∈ q.arms[j].unl, CsX t.e := fun t ht => rf1 t.e (by rw [hsp]; exact List.mem_append_right _ (List.mem_append_left _ (List.mem_map_of_mem ht)))
      clear hsp
      generalize ((q.arms.take j).flatMap fun a => a.unl.map Tr.e) = FB at *
      generalize q.arms[j] = a at *
      (repeat (first | refine aSeq fun X hX => ?_ | refine aBlk ?_ | refine aSkip ?_ | (first | apply aReg | apply aIf); simp -implicitDefEqProofs only [↓slp, ↓reduceIte, reduceCtorEq, jA, jB, jD, jF, Y1, f12, f14, pI, b12', c4] | apply hX; clear hX X | intro hlen; unfold maxLen at hlen))
      obtain ⟨L, hL⟩ : ∃ L : F → M → Prop, ∀ f m3, L f m3 = (∃ i : Nat, i ≤ a.unl.length ∧ f 0 = .bp gid 0 ∧ f 1 = .sl .no (see1.map pN) ∧ f 3 = .sl .no (over.map pI) ∧ f 6 = .ep [.sl .no (V.map Va.pv), .sl .no (Q.map Qu.pv)] ∧ f 11 = pI k ∧ f 12 = .bp bid 0 ∧ f 13 = .sl .no ((rdIs (nmG g3) see1 over (FB ++ (a.unl.take i).map Tr.e)).map pI) ∧ f 14 = pI j ∧ f 15 = pI i ∧ m3 = m2) := ⟨_, fun _ _ => rfl⟩
      refine aLoop L (fun f m => a.unl.length - numOf (f 15)) ?_ ?_
      ·rw [hL]; exact ⟨0, by omega, f0, f1, f3, f6, f11, f12, by rw [List.take_zero, List.map_nil, List.append_nil]; exact f13, f14, rfl, rfl⟩
      clear f0 f1 f3 f6 f11 f12 f13 f14
      intro f m3 hrel
      rw [hL] at hrel
      obtain ⟨i, hi0, f0, f1, f3, f6, f11, f12, f13, f14, f15, rfl⟩ := hrel
      cases c5 : decide ((i : Int) < (a.unl.length : Int)) with
      | true =>
       have hlti : i < a.unl.length := by simpa using c5
       have gi := getD_map Tr.pv a.unl i hlti
       have hii : IntKind.i64.wrap ((i : Int) + 1) = ((i + 1 : Nat) : Int) := by rw [wrap64 (by omega)]; omega
       have hmei : numOf (f 15) = i := by rw [f15]; exact Int.toNat_natCast i
       have hni : rdIs (nmG g3) see1 over (FB ++ (a.unl.take (i + 1)).map Tr.e) = rdIs (nmG g3) see1 (rdIs (nmG g3) see1 over (FB ++ (a.unl.take i).map Tr.e)) [a.unl[i].e] := by
        rw [List.take_succ_eq_append_getElem hlti, List.map_append, ← List.append_assoc, rdIs_app]; rfl
       have hlj := hRl (FB ++ (a.unl.take i).map Tr.e) (fun e he => (List.mem_append.1 he).elim (hB1 e) (fun h => by
        obtain ⟨t, ht, rfl⟩ := List.mem_map.1 h
        exact hB2 t (List.mem_of_mem_take ht)))
       rw [List.length_append, List.length_map, List.length_take] at hlj
       have hrd := hrS (rdIs (nmG g3) see1 over (FB ++ (a.unl.take i).map Tr.e)) a.unl[i].e (hB2 _ (List.getElem_mem hlti)) (by omega)
       generalize a.unl[i] = t at *
       (repeat (first | refine aSeq fun X hX => ?_ | refine aBlk ?_ | refine aSkip ?_ | (first | apply aReg | apply aIf); simp -implicitDefEqProofs only [↓slp, ↓reduceIte, reduceCtorEq, jA, jB, jD, jE, jF, Y1, f0, f1, f12, f13, f14, f15, pI, b12', ga, hltj, c5, gi]; try simp only [fo] | apply hX; clear hX X | intro hlen; unfold maxLen at hlen | apply And.intro; focus omega))
       refine callMS hrd (by simp only [List.map_cons, List.map_nil, PV.settle, PV.settles, Ex.settle_pv]) ?_
       rintro v mc ⟨rfl, rfl⟩
       simp -implicitDefEqProofs only [↓slp, slb, ↓reduceIte, jF]; try simp only [fo]
       (repeat (first | refine aReg ?_; simp -implicitDefEqProofs only [↓slp, slb, ↓reduceIte, jA, jF, f15, pI, hii] | apply hX; clear hX X))
       rw [hL]
       exact ⟨⟨i + 1, hlti, f0, f1, f3, f6, f11, f12, by rw [hni]; rfl, f14, rfl, rfl⟩, by omega⟩
      | false =>
       obtain rfl : i = a.unl.length := by simp at c5; omega
       rw [List.take_length, ← hnj] at f13
       (repeat (first | refine aSeq fun X hX => ?_ | refine aExit ?_; try simp only [slx, ↓reduceIte, jA, reduceCtorEq] | (first | apply aReg | apply aIf); simp -implicitDefEqProofs only [↓slp, ↓reduceIte, reduceCtorEq, jA, jB, jD, jE, jF, Y1, f12, f14, f15, pI, b12', ga, hltj, c5, hij] | apply hX; clear hX X | clear hX X; apply hX; clear hX X | intro hlen; unfold maxLen at hlen))
       rw [hJ]
       exact ⟨⟨j + 1, hltj, f0, f1, f3, f6, f11, f12, f13, rfl, rfl⟩, by omega⟩
    ·have k4 : ¬ q.kind = 4 := by simpa using c0
     have b12' := b12
     unfold Qu.cs at b12'
     cases b2 : (q.kind == 2) with
     | true =>
      have k2 : q.kind = 2 := by simpa using b2
      cases hh : q.has with
      | true =>
       have e1 : exF q = [q.e] := by unfold exF; rw [if_neg k4, if_pos (.inr hh)]
       rw [e1] at join rf1
       have hrd := hrS over q.e (rf1 _ (List.mem_singleton.2 rfl)) (by omega)
       rw [hh] at b12'
       (repeat (first | refine aSeq fun X hX => ?_ | (first | apply aReg | apply aIf); simp -implicitDefEqProofs only [↓slp, ↓reduceIte, reduceCtorEq, jA, jB, jD, jE, jF, Y1, f0, f1, b12', b2]; try simp only [fo] | apply hX; clear hX X))
       refine callMS hrd (by simp only [List.map_cons, List.map_nil, PV.settle, PV.settles, Ex.settle_pv]) ?_
       rintro v mc ⟨rfl, rfl⟩
       simp -implicitDefEqProofs only [↓slp, slb, ↓reduceIte, jF]; try simp only [fo]
       (repeat (first | refine aSeq fun X hX => ?_ | apply aBlk | refine aSkip ?_ | (first | refine aExit ?_ | refine aRet ?_); try simp only [slx, ↓reduceIte, jA, reduceCtorEq] | (apply hX; clear hX X) | (clear hX X; apply hX; clear hX X)))
       exact join _ f0 f1 f3 f6 f11 rfl rfl
      | false =>
       have e1 : exF q = [] := by unfold exF; rw [if_neg k4, if_neg (by rw [k2, hh]; simp)]
       rw [e1] at join
       rw [hh] at b12'
       (repeat (first | refine aSeq fun X hX => ?_ | refine aSkip ?_ | (first | apply aReg | apply aIf); simp -implicitDefEqProofs only [↓slp, ↓reduceIte, reduceCtorEq, jA, jB, jD, jF, Y1, b12', b2] | apply hX; clear hX X))
       exact join _ f0 f1 f3 f6 f11 rfl rfl
     | false =>
      have k2 : ¬ q.kind = 2 := by simpa using b2
      have e1 : exF q = [q.e] := by unfold exF; rw [if_neg k4, if_pos (.inl k2)]
      rw [e1] at join rf1
      have hrd := hrS over q.e (rf1 _ (List.mem_singleton.2 rfl)) (by omega)
      (repeat (first | refine aSeq fun X hX => ?_ | (first | apply aReg | apply aIf); simp -implicitDefEqProofs only [↓slp, ↓reduceIte, reduceCtorEq, jA, jB, jE, jF, Y1, f0, f1, b12', b2]; try simp only [fo] | apply hX; clear hX X))
      refine callMS hrd (by simp only [List.map_cons, List.map_nil, PV.settle, PV.settles, Ex.settle_pv]) ?_
      rintro v mc ⟨rfl, rfl⟩
      simp -implicitDefEqProofs only [↓slp, slb, ↓reduceIte, jF]; try simp only [fo]
      (repeat (first | refine aSeq fun X hX => ?_ | apply aBlk | refine aSkip ?_ | (first | refine aExit ?_ | refine aRet ?_); try simp only [slx, ↓reduceIte, jA, reduceCtorEq] | (apply hX; clear hX X) | (clear hX X; apply hX; clear hX X)))
      exact join _ f0 f1 f3 f6 f11 rfl rfl
theorem rblock_any : ∀ d : Nat, BlCr (gBk d) (CsB d) (cntF d) (pcF d) ((d + 1) * 10000)
 | 0 => rblock_step (K := 0) (df := fun _ _ => []) (bl := fun g _ _ _ _ => g) (PB := fun _ _ _ => False) (PD := fun _ _ _ => False) (cb := fun _ _ => 0) (pb := fun _ _ => 0) (fun V Q T h _ => h.elim) (fun V Q T h _ => h.elim) (fun S V Q h => h.elim) (fun g see V Q O => ⟨[], by simp, rfl⟩)
 | d + 1 => by
  have := rblock_step (K := (d + 1) * 10000) (fun V Q T h hT => bdefines_any d V Q T h hT) (fun V Q T h hT => rbdefines_any d V Q T h hT) (rblock_any d) (gBk_vs d)
  rwa [show (d + 1) * 10000 + 10000 = (d + 1 + 1) * 10000 by omega] at this
end
end Go.Proofs.Ytaealemhegdmpaa
