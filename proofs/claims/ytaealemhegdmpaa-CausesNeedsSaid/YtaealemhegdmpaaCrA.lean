/-
 Texts that belong together: CrG, CrR.
-/
-- halved
import Derived.Test.YtaealemhegdmpaaCgF
/-
 The reference's graph (layer 11): put, find, need, reads.
-/
set_option linter.unusedVariables false
set_option linter.unusedSimpArgs false
namespace Go.Proofs.Ytaealemhegdmpaa
open Nat renaming reduceEqDiff → jA, reduceAdd → jB, reduceMul → jC, reduceLT → jD, reduceLeDiff → jE, reduceBEq → jF, reduceBNe → jG
open Int renaming reduceLE → jH, reduceLT → jI, reduceToNat → jJ, reduceEq → jK
open Go
set_option maxRecDepth 20000
-- TNAMES: int; uint8; int32; string; bool; []string; []api.Expr; api.Expr; api.Pos; []api.Pos; api.Type; api.On; []api.On; api.Var; []api.Var; []int; [2]int; [][2]int; []bool; [][]bool; metronomeref11.Graph; *metronomeref11.Graph


abbrev pQ (a : Int × Int) : PV := .ag [.v (.int .i64 a.1), .v (.int .i64 a.2)]
def rgC (o1 o2 o3 : Own) (N : List Str) (A P : List (Int × Int)) : List PV := [.sl o1 (N.map pS), .sl o2 (A.map pQ), .sl .full [], .sl o3 (P.map pQ)]
/-- The reference's graph stands in its box. -/
structure RgM (mb : M) (gid : Nat) (N : List Str) (A P : List (Int × Int)) (m : M) : Prop where
 base : BaseR mb m
 gb : mb.nb ≤ gid
 glt : gid < m.nb
 box : ∃ o1 o2 o3, m.get gid = some (rgC o1 o2 o3 N A P) ∧ Mine mb m o1 1 ∧ Mine mb m o2 2 ∧ Mine mb m o3 2 ∧ (∀ t, o1 = .tok t → o2 ≠ .tok t) ∧ (∀ t, o1 = .tok t → o3 ≠ .tok t) ∧ (∀ t, o2 = .tok t → o3 ≠ .tok t)
theorem mine_wi {mb m : M} {o : Own} {s n k : Nat} (h : Mine mb m o s) (xs : List PV) (hk : m.nt ≤ k) : (PV.sl o xs).within n k = true := by
 rcases h with rfl | ⟨t, rfl, _, h2⟩
 ·rfl
 ·have := M.alive_lt h2
  unfold M.nt at hk
  simp [PV.within]; omega
theorem Mine.toksQ {mb m m' : M} {o : Own} {s : Nat} (h : Mine mb m o s) (ht : m'.toks = m.toks) : Mine mb m' o s := by
 rcases h with rfl | ⟨t, rfl, h1, h2⟩
 ·exact .inl rfl
 ·exact .inr ⟨t, rfl, h1, by unfold M.alive at h2 ⊢; rw [ht]; exact h2⟩
theorem use_get (o : Own) (m : M) (s k : Nat) : ((o.use m).fresh s).get k = m.get k := by
 unfold M.get; rw [show ((o.use m).fresh s).boxes = m.boxes from use_boxes o m]
theorem use_nbF (o : Own) (m : M) (s : Nat) : ((o.use m).fresh s).nb = m.nb := by
 unfold M.nb; rw [show ((o.use m).fresh s).boxes = m.boxes from use_boxes o m]
section
variable {mb m : M} {gid : Nat} {N : List Str} {A P : List (Int × Int)} {o1 o2 o3 : Own}
theorem rg_upd (hb : BaseR mb m) (g1 : mb.nb ≤ gid) (g2 : gid < m.nb) (hN : Mine mb m o1 1) (hA : Mine mb m o2 2) (hP : Mine mb m o3 2) (h12 : ∀ t, o1 = .tok t → o2 ≠ .tok t) (h13 : ∀ t, o1 = .tok t → o3 ≠ .tok t) (h23 : ∀ t, o2 = .tok t → o3 ≠ .tok t) (N : List Str) (A P : List (Int × Int)) :
    RgM mb gid N A P (m.upd gid (rgC o1 o2 o3 N A P)) ∧ Stp m (m.upd gid (rgC o1 o2 o3 N A P)) := by
 refine ⟨⟨hb.upd g1 _, g1, by rw [upd_nb']; exact g2, o1, o2, o3, by rw [M.get_upd, if_pos ⟨rfl, g2⟩], hN.toksQ rfl, hA.toksQ rfl, hP.toksQ rfl, h12, h13, h23⟩, Stp.upd m fun x hx => ?_⟩
 simp only [rgC, List.mem_cons, List.not_mem_nil, or_false] at hx
 rcases hx with rfl | rfl | rfl | rfl
 ·exact mine_wi hN _ (Nat.le_refl _)
 ·exact mine_wi hA _ (Nat.le_refl _)
 ·rfl
 ·exact mine_wi hP _ (Nat.le_refl _)
theorem RgM.push (h : RgM mb gid N A P m) (B : List PV) : RgM mb gid N A P (m.push B) := by
 obtain ⟨o1, o2, o3, b1, b2, b3, b4, b5, b6, b7⟩ := h.box
 exact ⟨h.base.push B, h.gb, by rw [push_nb]; have := h.glt; omega, o1, o2, o3, by rw [M.get_push, if_neg (by have := h.glt; omega)]; exact b1, b2.toksQ rfl, b3.toksQ rfl, b4.toksQ rfl, b5, b6, b7⟩
/-- Other tokens come and go. -/
theorem RgM.use (h : RgM mb gid N A P m) {o : Own} {s s' : Nat} (ho : Mine mb m o s') (hne : ∀ o1 o2 o3, m.get gid = some (rgC o1 o2 o3 N A P) → ∀ t, o = .tok t → o1 ≠ .tok t ∧ o2 ≠ .tok t ∧ o3 ≠ .tok t) : RgM mb gid N A P ((o.use m).fresh s) := by
 obtain ⟨o1, o2, o3, b1, b2, b3, b4, b5, b6, b7⟩ := h.box
 have hn := hne o1 o2 o3 b1
 exact ⟨h.base.fresh ho, h.gb, by rw [use_nbF]; exact h.glt, o1, o2, o3, by rw [use_get]; exact b1, b2.other (fun t ht => (hn t ht).1), b3.other (fun t ht => (hn t ht).2.1), b4.other (fun t ht => (hn t ht).2.2), b5, b6, b7⟩
end
theorem RgM.fresh {mb m : M} {gid : Nat} {N : List Str} {A P : List (Int × Int)} (h : RgM mb gid N A P m) (s : Nat) : RgM mb gid N A P (m.fresh s) := h.use (o := .full) (s' := 1) .full (fun _ _ _ _ _ h => by cases h)
/-- A list of one's own that grows, beside the graph. -/
theorem RgM.own {mb m : M} {gid : Nat} {N : List Str} {A P : List (Int × Int)} (h : RgM mb gid N A P m) (s s' : Nat) : RgM mb gid N A P (((Own.tok m.nt).use (m.fresh s)).fresh s') := by
 have hal : (m.fresh s).alive m.nt s := by simp [M.alive, M.fresh, M.nt]
 refine (h.fresh s).use (s' := s) (.inr ⟨_, rfl, h.base.nt, hal⟩) (fun o1 o2 o3 hb t ht => ?_)
 obtain ⟨p1, p2, p3, b1, b2, b3, b4, _⟩ := h.box
 have hb' : m.get gid = some (rgC o1 o2 o3 N A P) := hb
 rw [b1] at hb'
 simp only [rgC, Option.some.injEq, List.cons.injEq, PV.sl.injEq, and_true, true_and] at hb'
 obtain ⟨⟨rfl, _⟩, ⟨rfl, _⟩, ⟨rfl, _⟩⟩ := hb'
 exact ⟨b2.ne_new t ht, b3.ne_new t ht, b4.ne_new t ht⟩
theorem strsQ (l : List Str) : ∀ x ∈ l.map pS, x.cells.length = 1 := fun x hx => by obtain ⟨s, _, rfl⟩ := List.mem_map.1 hx; rfl
theorem posQ (l : List (Int × Int)) : ∀ x ∈ l.map pQ, x.cells.length = 2 := fun x hx => by obtain ⟨s, _, rfl⟩ := List.mem_map.1 hx; rfl
theorem natsQ (l : List Nat) : ∀ x ∈ l.map pN, x.cells.length = 1 := fun x hx => by obtain ⟨s, _, rfl⟩ := List.mem_map.1 hx; rfl
theorem intsQ (l : List Int) : ∀ x ∈ l.map pI, x.cells.length = 1 := fun x hx => by obtain ⟨s, _, rfl⟩ := List.mem_map.1 hx; rfl
/-- All other boxes are as they were. -/
def Oth (gid : Nat) (m m' : M) : Prop := ∀ k, k ≠ gid → k < m.nb → m'.get k = m.get k
set_option maxHeartbeats 4000000 in
theorem rputO_any (mb : M) (gid : Nat) (N : List Str) (A P : List (Int × Int)) (see : List Nat) (v : Va) (m : M) (hg : RgM mb gid N A P m) (hN : N.length < 2 ^ 40) (hA : A.length = N.length) (hsl : see.length < 2 ^ 40) : ACalls Try.prog 18 [.bp gid 0, .sl .no (see.map pN), v.pv] m (fun x m' => x = .sl .no ((see ++ [N.length]).map pN) ∧ RgM mb gid (N ++ [v.name]) (A ++ [(v.line, v.col)]) P m' ∧ Stp m m' ∧ Oth gid m m') := by
 refine ACalls.enter (mu := []) ok_mix Try.func18 rfl (by kernel_rfl) (by kernel_rfl) (by simp only [List.length_cons, List.length_nil, Try.ntmps18]; omega) ?_
 (repeat (first | refine aSeq fun X hX => ?_ | refine aReg ?_; simp -implicitDefEqProofs only [↓slp, ↓reduceIte, Y0] | apply hX; clear hX X))
 obtain ⟨o1, o2, o3, b1, b2, b3, b4, b5, b6, b7⟩ := hg.box
 unfold rgC at b1
 have hp : ∀ y : Subtype (fun m2 : M => m2.get gid = some [.sl o1 (N.map pS), .sl o2 (A.map pQ), .sl .full [], .sl o3 (P.map pQ)]), y.1.get gid = some [.sl o1 (N.map pS), .sl o2 (A.map pQ), .sl .full [], .sl o3 (P.map pQ)] := fun y => y.2
 have hfr := b2.free
 have h11 := strsQ N
 have hmx : N.length + 1 ≤ maxLen := by unfold maxLen; omega
 refine aDrwE (isP (fun m2 : M => m2.get gid = some [.sl o1 (N.map pS), .sl o2 (A.map pQ), .sl .full [], .sl o3 (P.map pQ)])) (hne := List.cons_ne_nil _ _) rfl (by kernel_rfl) (by kernel_rfl) (isP_of b1) ?_
 simp -implicitDefEqProofs only [↓slp, ↓reduceIte, reduceCtorEq, jA, jB, jC, jE, Y0, isP_all, b1, hp, Nat.zero_add, List.dropLast_cons_cons, List.dropLast_singleton, List.getLast_cons_cons, List.getLast_singleton]
 have e1 : ((o1.use m).fresh 1).get gid = some [.sl o1 (N.map pS), .sl o2 (A.map pQ), .sl .full [], .sl o3 (P.map pQ)] := by rw [use_get]; exact b1
 refine ⟨⟨hfr, h11, hmx, by omega⟩, isP_of e1, ?_⟩
 simp -implicitDefEqProofs only [slb, jB, jE, e1]
 obtain ⟨r1, st1⟩ := rg_upd (m := (o1.use m).fresh 1) (gid := gid) (o1 := .tok m.nt) (o2 := o2) (o3 := o3) (hg.base.fresh b2) hg.gb (by rw [use_nbF]; exact hg.glt) (Mine.newB hg.base o1 1) (b3.other (fun t ht => b5 t ht)) (b4.other (fun t ht => b6 t ht)) (fun t ht => b3.ne_new t ht) (fun t ht => b4.ne_new t ht) b7 (N ++ [v.name]) A P
 rw [show rgC (.tok m.nt) o2 o3 (N ++ [v.name]) A P = [.sl (.tok m.nt) (N.map pS ++ [.v (.string v.name)]), .sl o2 (A.map pQ), .sl .full [], .sl o3 (P.map pQ)] by simp [rgC]] at r1 st1
 have st1' := (Stp.use m o1 1).trans st1
 clear st1 e1 hfr h11 hmx hp b1 b2 b3 b4 b5 b6 b7
 generalize hm1 : M.upd ((o1.use m).fresh 1) gid _ = m1 at *
 have ho1 : ∀ k, k ≠ gid → m1.get k = m.get k := fun k hk => by rw [← hm1, M.get_upd, if_neg (fun q => hk q.1), use_get]
 clear hm1
 refine hX _ _ ?_
 clear hX X
 obtain ⟨o1, o2, o3, b1, b2, b3, b4, b5, b6, b7⟩ := r1.box
 unfold rgC at b1
 have hp : ∀ y : Subtype (fun m2 : M => m2.get gid = some [.sl o1 ((N ++ [v.name]).map pS), .sl o2 (A.map pQ), .sl .full [], .sl o3 (P.map pQ)]), y.1.get gid = some [.sl o1 ((N ++ [v.name]).map pS), .sl o2 (A.map pQ), .sl .full [], .sl o3 (P.map pQ)] := fun y => y.2
 have hfr := b3.free
 have h11 := posQ A
 have hmx : A.length + 1 ≤ maxLen := by unfold maxLen; omega
 refine aSeq fun X hX => ?_
 refine aDrwE (isP (fun m2 : M => m2.get gid = some [.sl o1 ((N ++ [v.name]).map pS), .sl o2 (A.map pQ), .sl .full [], .sl o3 (P.map pQ)])) (hne := List.cons_ne_nil _ _) rfl (by kernel_rfl) (by kernel_rfl) (isP_of b1) ?_
 simp -implicitDefEqProofs only [↓slp, ↓reduceIte, reduceCtorEq, jA, jB, jC, jD, jE, Y0, isP_all, b1, hp, Nat.zero_add, List.dropLast_cons_cons, List.dropLast_singleton, List.getLast_cons_cons, List.getLast_singleton]
 have e1 : ((o2.use m1).fresh 2).get gid = some [.sl o1 ((N ++ [v.name]).map pS), .sl o2 (A.map pQ), .sl .full [], .sl o3 (P.map pQ)] := by rw [use_get]; exact b1
 refine ⟨⟨hfr, h11, hmx, by omega⟩, isP_of e1, ?_⟩
 simp -implicitDefEqProofs only [slb, jB, jE, e1]
 obtain ⟨r2, st2⟩ := rg_upd (m := (o2.use m1).fresh 2) (gid := gid) (o1 := o1) (o2 := .tok m1.nt) (o3 := o3) (r1.base.fresh b3) r1.gb (by rw [use_nbF]; exact r1.glt) (b2.other (fun t ht q => b5 t q ht)) (Mine.newB r1.base o2 2) (b4.other (fun t ht => b7 t ht)) (fun t ht => b2.new_ne t ht) b6 (fun t ht => b4.ne_new t ht) (N ++ [v.name]) (A ++ [(v.line, v.col)]) P
 rw [show rgC o1 (.tok m1.nt) o3 (N ++ [v.name]) (A ++ [(v.line, v.col)]) P = [.sl o1 ((N ++ [v.name]).map pS), .sl (.tok m1.nt) (A.map pQ ++ [.ag [.v (.int .i64 v.line), .v (.int .i64 v.col)]]), .sl .full [], .sl o3 (P.map pQ)] by simp [rgC]] at r2 st2
 have st2' := st1'.trans ((Stp.use m1 o2 2).trans st2)
 clear st2 e1 hfr h11 hmx hp b1 b2 b3 b4 b5 b6 b7 st1'
 generalize hm2 : M.upd ((o2.use m1).fresh 2) gid _ = m2 at *
 have ho2 : ∀ k, k ≠ gid → m2.get k = m.get k := fun k hk => by rw [← hm2, M.get_upd, if_neg (fun q => hk q.1), use_get]; exact ho1 k hk
 clear hm2
 refine hX _ _ ?_
 clear hX X
 obtain ⟨o1, o2, o3, b1, _⟩ := r2.box
 unfold rgC at b1
 have hn1 := natsQ see
 have hw : IntKind.i64.wrap (((N ++ [v.name]).length : Int) - 1) = (N.length : Int) := by rw [List.length_append, List.length_singleton, wrap64 (by omega)]; omega
 have hmx : see.length + 1 ≤ maxLen := by unfold maxLen; omega
 have hal : (m2.fresh 1).alive m2.nt 1 := by simp [M.alive, M.fresh, M.nt]
 have b1f : (m2.fresh 1).get gid = some [.sl o1 ((N ++ [v.name]).map pS), .sl o2 ((A ++ [(v.line, v.col)]).map pQ), .sl .full [], .sl o3 (P.map pQ)] := b1
 (repeat (first | refine aSeq fun X hX => ?_ | refine aRet ?_ | refine aReg ?_; simp -implicitDefEqProofs only [forall_eq, ↓slp, ↓reduceIte, reduceCtorEq, jA, jB, jC, jE, Y0, b1f, hw, Nat.zero_add] | apply hX; clear hX X | intro hlen; unfold maxLen at hlen | apply And.intro; focus ((repeat' apply And.intro) <;> first | omega | assumption)))
 simp only [aPost, Try.results18, aRes_n, aRes_t, aRes_c, pack_one, pack_two]
 simp -implicitDefEqProofs only [slb, ↓reduceIte]
 have r3 := r2.own 1 1
 have hfin := st2'.trans ((Stp.use m2 .full 1).trans (Stp.use (m2.fresh 1) (.tok m2.nt) 1))
 refine leave_stp hfin rfl ⟨?_, r3, hfin, fun k hk _ => (use_get (.tok m2.nt) (m2.fresh 1) 1 k).trans (ho2 k hk)⟩
 simp [PV.settle]
theorem rput_any (mb : M) (gid : Nat) (N : List Str) (A P : List (Int × Int)) (see : List Nat) (v : Va) (m : M) (hg : RgM mb gid N A P m) (hN : N.length < 2 ^ 40) (hA : A.length = N.length) (hsl : see.length < 2 ^ 40) : ACalls Try.prog 18 [.bp gid 0, .sl .no (see.map pN), v.pv] m (fun x m' => x = .sl .no ((see ++ [N.length]).map pN) ∧ RgM mb gid (N ++ [v.name]) (A ++ [(v.line, v.col)]) P m' ∧ Stp m m') :=
 (rputO_any mb gid N A P see v m hg hN hA hsl).mono fun x m' h => ⟨h.1, h.2.1, h.2.2.1⟩
set_option maxHeartbeats 4000000 in
theorem rfind_any (gid : Nat) (o1 o2 o3 : Own) (N : List Str) (A P : List (Int × Int)) (see : List Nat) (s : Str) (m : M) (hb : m.get gid = some (rgC o1 o2 o3 N A P)) (hs : ∀ i ∈ see, i < N.length) (hsl : see.length < 2 ^ 40) : ACalls Try.prog 33 [.bp gid 0, .sl .no (see.map pN), pS s] m (fun v m' => v = pI (fndN N see s) ∧ m' = m) := by
 refine ACalls.enter (mu := []) ok_mix Try.func33 rfl (by kernel_rfl) (by kernel_rfl) (by simp only [List.length_cons, List.length_nil, Try.ntmps33]; omega) ?_
 (repeat (first | refine aSeq fun X hX => ?_ | refine aBlk ?_ | refine aReg ?_; simp -implicitDefEqProofs only [↓slp, slb] | apply hX; clear hX X))
 obtain ⟨I, hI⟩ : ∃ I : F → M → Prop, ∀ f m', I f m' = (∃ k : Nat, k ≤ see.length ∧ f 0 = .bp gid 0 ∧ f 1 = .sl .no (see.map pN) ∧ f 2 = pS s ∧ f 7 = pI (fndN N (see.take k) s) ∧ f 8 = pI k ∧ m' = m) := ⟨_, fun _ _ => rfl⟩
 refine aLoop I (fun f m => see.length - numOf (f 8)) ?_ ?_
 ·rw [hI]; exact ⟨0, by omega, rfl, rfl, rfl, rfl, rfl, rfl⟩
 intro f m' hrel
 rw [hI] at hrel
 obtain ⟨k, hk, f0, f1, f2, f7, f8, rfl⟩ := hrel
 cases c1 : decide ((k : Int) < (see.length : Int)) with
 | false =>
  obtain rfl : k = see.length := by simp at c1; omega
  rw [List.take_length] at f7
  (repeat (first | refine aSeq fun X hX => ?_ | (first | refine aExit ?_ | refine aRet ?_); try simp only [slx, ↓reduceIte, jA, reduceCtorEq] | (first | apply aReg | apply aIf); simp -implicitDefEqProofs only [↓slp, ↓reduceIte, jA, Y0, f1, f7, f8, pI, c1] | apply hX; clear hX X | clear hX X; apply hX; clear hX X | intro hlen; unfold maxLen at hlen))
  simp only [aPost, Try.results33, aRes_n, aRes_t, aRes_c, pack_one, pack_two]
  exact leave_same rfl ⟨rfl, rfl⟩
 | true =>
  have hlt : k < see.length := by simpa using c1
  have g1 := getD_map pN see k hlt
  have hsk := hs _ (List.getElem_mem hlt)
  have g2 := getD_map pS N see[k] hsk
  have hi : IntKind.i64.wrap ((k : Int) + 1) = ((k + 1 : Nat) : Int) := by rw [wrap64 (by omega)]; omega
  have hme : numOf (f 8) = k := by rw [f8]; exact Int.toNat_natCast k
  have hsn := fndN_snoc N (see.take k) see[k] s
  rw [← List.take_succ_eq_append_getElem hlt] at hsn
  have hnm : N.getD see[k] ⟨#[]⟩ = N[see[k]] := by simp [List.getD, hsk]
  rw [hnm] at hsn
  cases c2 : (N[see[k]].toList == s.toList) with
  | true =>
   rw [if_pos (show eqS N[see[k]] s = true from c2)] at hsn
   (repeat (first | refine aSeq fun X hX => ?_ | refine aSkip ?_ | (first | apply aReg | refine aDrE ?_ | apply aIf); simp -implicitDefEqProofs only [forall_eq, ↓slp, ↓reduceIte, reduceCtorEq, jA, jB, Y0, f0, f1, f2, f8, pI, pN, pS, c1, hb, rgC, g1, g2, c2, hi, Nat.zero_add] | apply hX; clear hX X | intro hlen; unfold maxLen at hlen | apply And.intro; focus omega))
   rw [hI]
   exact ⟨⟨k + 1, hlt, f0, f1, f2, by rw [hsn]; rfl, rfl, rfl⟩, by omega⟩
  | false =>
   rw [if_neg (show ¬ eqS N[see[k]] s = true by rw [show eqS N[see[k]] s = false from c2]; simp)] at hsn
   (repeat (first | refine aSeq fun X hX => ?_ | refine aSkip ?_ | (first | apply aReg | refine aDrE ?_ | apply aIf); simp -implicitDefEqProofs only [forall_eq, ↓slp, ↓reduceIte, reduceCtorEq, jA, jB, Y0, f0, f1, f2, f8, pI, pN, pS, c1, hb, rgC, g1, g2, c2, hi, Nat.zero_add] | apply hX; clear hX X | intro hlen; unfold maxLen at hlen | apply And.intro; focus omega))
   rw [hI]
   exact ⟨⟨k + 1, hlt, f0, f1, f2, by rw [hsn]; exact f7, rfl, rfl⟩, by omega⟩
def ndP (i : Int) (l : List Int) : List (Int × Int) := (l.filter fun k => decide (0 ≤ i) && decide (0 ≤ k)).map fun k => (i, k)
theorem ndP_take {i : Int} {l : List Int} {k : Nat} (h : k < l.length) : ndP i (l.take (k + 1)) = ndP i (l.take k) ++ (if 0 ≤ i ∧ 0 ≤ l[k] then [(i, l[k])] else []) := by
 unfold ndP
 rw [List.take_succ_eq_append_getElem h, List.filter_append, List.map_append]
 congr 1
 by_cases hq : 0 ≤ i ∧ 0 ≤ l[k]
 ·simp [hq]
 ·rw [if_neg hq]
  simp only [List.filter_cons, List.filter_nil]
  rw [if_neg (by simpa using hq)]
  rfl
set_option maxHeartbeats 4000000 in
theorem rneed_any (mb : M) (gid : Nat) (N : List Str) (A P : List (Int × Int)) (i : Int) (l : List Int) (m : M) (hg : RgM mb gid N A P m) (hP : P.length + l.length < 2 ^ 40) : ACalls Try.prog 32 [.bp gid 0, pI i, .sl .no (l.map pI)] m (fun v m' => v = .tp [] ∧ RgM mb gid N A (P ++ ndP i l) m' ∧ Stp m m' ∧ Oth gid m m') := by
 refine ACalls.enter (mu := []) ok_mix Try.func32 rfl (by kernel_rfl) (by kernel_rfl) (by simp only [List.length_cons, List.length_nil, Try.ntmps32]; omega) ?_
 (repeat (first | refine aSeq fun X hX => ?_ | refine aBlk ?_ | refine aReg ?_; simp -implicitDefEqProofs only [↓slp, slb] | apply hX; clear hX X))
 obtain ⟨I, hI⟩ : ∃ I : F → M → Prop, ∀ f m', I f m' = (∃ k : Nat, k ≤ l.length ∧ f 0 = .bp gid 0 ∧ f 1 = pI i ∧ f 2 = .sl .no (l.map pI) ∧ f 6 = pI k ∧ RgM mb gid N A (P ++ ndP i (l.take k)) m' ∧ Stp m m' ∧ Oth gid m m') := ⟨_, fun _ _ => rfl⟩
 refine aLoop I (fun f m => l.length - numOf (f 6)) ?_ ?_
 ·rw [hI]; exact ⟨0, by omega, rfl, rfl, rfl, rfl, by simpa [ndP] using hg, Stp.refl m, fun _ _ _ => rfl⟩
 intro f m' hrel
 rw [hI] at hrel
 obtain ⟨k, hk, f0, f1, f2, f6, hg', hst, hot⟩ := hrel
 cases c1 : decide ((k : Int) < (l.length : Int)) with
 | false =>
  obtain rfl : k = l.length := by simp at c1; omega
  rw [List.take_length] at hg'
  (repeat (first | refine aSeq fun X hX => ?_ | refine aExit ?_; try simp only [slx, ↓reduceIte, jA, reduceCtorEq] | (first | apply aReg | apply aIf); simp -implicitDefEqProofs only [↓slp, ↓reduceIte, jA, Y0, f2, f6, pI, c1] | apply hX; clear hX X | intro hlen; unfold maxLen at hlen))
  simp only [aPost, Try.results32, aRes_n, aRes_t, aRes_c, pack_one, pack_two]
  exact leave_stp hst rfl ⟨rfl, hg', hst, hot⟩
 | true =>
  have hlt : k < l.length := by simpa using c1
  have g1 := getD_map pI l k hlt
  have hi : IntKind.i64.wrap ((k : Int) + 1) = ((k + 1 : Nat) : Int) := by rw [wrap64 (by omega)]; omega
  have hme : numOf (f 6) = k := by rw [f6]; exact Int.toNat_natCast k
  have hnx := ndP_take (i := i) hlt
  have hPl : (P ++ ndP i (l.take k)).length + 1 < 2 ^ 41 := by
   have h2 : (ndP i (l.take k)).length ≤ k := by
    unfold ndP
    rw [List.length_map]
    refine Nat.le_trans (List.length_filter_le _ _) ?_
    rw [List.length_take]; omega
   rw [List.length_append]; omega
  generalize l[k] = x at *
  generalize ndP i (l.take k) = Q at *
  cases c2 : decide (i ≥ 0) with
  | false =>
   rw [if_neg (fun q => by simp at c2; omega), List.append_nil] at hnx
   (repeat (first | refine aSeq fun X hX => ?_ | refine aSkip ?_ | (first | apply aReg | apply aIf); simp -implicitDefEqProofs only [↓slp, ↓reduceIte, reduceCtorEq, jA, Y0, f1, f2, f6, pI, c1, c2, hi] | apply hX; clear hX X | intro hlen; unfold maxLen at hlen))
   rw [hI]
   exact ⟨⟨k + 1, hlt, f0, f1, f2, rfl, by rw [hnx]; exact hg', hst, hot⟩, by omega⟩
  | true =>
  cases c3 : decide (x ≥ 0) with
  | false =>
   rw [if_neg (fun q => by simp at c3; omega), List.append_nil] at hnx
   (repeat (first | refine aSeq fun X hX => ?_ | refine aSkip ?_ | (first | apply aReg | apply aIf); simp -implicitDefEqProofs only [↓slp, ↓reduceIte, reduceCtorEq, jA, jB, Y0, f1, f2, f6, pI, c1, c2, c3, g1, hi, hlt] | apply hX; clear hX X | intro hlen; unfold maxLen at hlen))
   rw [hI]
   exact ⟨⟨k + 1, hlt, f0, f1, f2, rfl, by rw [hnx]; exact hg', hst, hot⟩, by omega⟩
  | true =>
   rw [if_pos ⟨by simpa using c2, by simpa using c3⟩] at hnx
   have hnx2 : P ++ ndP i (l.take (k + 1)) = (P ++ Q) ++ [(i, x)] := by rw [hnx, List.append_assoc]
   generalize P ++ Q = P1 at *
   (repeat (first | refine aSeq fun X hX => ?_ | refine aSkip ?_ | (first | apply aReg | apply aIf); simp -implicitDefEqProofs only [↓slp, ↓reduceIte, reduceCtorEq, jA, jB, Y0, f1, f2, f6, pI, c1, c2, c3, g1, hlt] | apply hX; clear hX X | intro hlen; unfold maxLen at hlen))
   obtain ⟨o1, o2, o3, b1, b2, b3, b4, b5, b6, b7⟩ := hg'.box
   unfold rgC at b1
   have hp : ∀ y : Subtype (fun m2 : M => m2.get gid = some [.sl o1 (N.map pS), .sl o2 (A.map pQ), .sl .full [], .sl o3 (P1.map pQ)]), y.1.get gid = some [.sl o1 (N.map pS), .sl o2 (A.map pQ), .sl .full [], .sl o3 (P1.map pQ)] := fun y => y.2
   have hfr := b4.free
   have h11 := posQ P1
   have hmx : P1.length + 1 ≤ maxLen := by unfold maxLen; omega
   refine aDrwE (isP (fun m2 : M => m2.get gid = some [.sl o1 (N.map pS), .sl o2 (A.map pQ), .sl .full [], .sl o3 (P1.map pQ)])) (hne := List.cons_ne_nil _ _) rfl (by kernel_rfl) (by kernel_rfl) (isP_of b1) ?_
   simp -implicitDefEqProofs only [↓slp, ↓reduceIte, reduceCtorEq, jA, jB, jC, jE, Y0, f0, f1, f2, f6, pI, g1, hlt, isP_all, b1, hp, Nat.zero_add, List.dropLast_cons_cons, List.dropLast_singleton, List.getLast_cons_cons, List.getLast_singleton]
   have e1 : ((o3.use m').fresh 2).get gid = some [.sl o1 (N.map pS), .sl o2 (A.map pQ), .sl .full [], .sl o3 (P1.map pQ)] := by rw [use_get]; exact b1
   refine ⟨⟨hfr, h11, hmx, by omega⟩, isP_of e1, ?_⟩
   simp -implicitDefEqProofs only [slb, jB, jE, e1]
   obtain ⟨r2, st2⟩ := rg_upd (m := (o3.use m').fresh 2) (gid := gid) (o1 := o1) (o2 := o2) (o3 := .tok m'.nt) (hg'.base.fresh b4) hg'.gb (by rw [use_nbF]; exact hg'.glt) (b2.other (fun t ht q => b6 t q ht)) (b3.other (fun t ht q => b7 t q ht)) (Mine.newB hg'.base o3 2) b5 (fun t ht => b2.new_ne t ht) (fun t ht => b3.new_ne t ht) N A (P1 ++ [(i, x)])
   rw [show rgC o1 o2 (.tok m'.nt) N A (P1 ++ [(i, x)]) = [.sl o1 (N.map pS), .sl o2 (A.map pQ), .sl .full [], .sl (.tok m'.nt) (P1.map pQ ++ [.ag [.v (.int .i64 i), .v (.int .i64 x)]])] by simp [rgC]] at r2 st2
   have st2' := hst.trans ((Stp.use m' o3 2).trans st2)
   refine hX _ _ ?_
   clear hX X
   (repeat (refine aReg ?_; simp -implicitDefEqProofs only [↓slp, slb, ↓reduceIte, jA, f6, pI, hi]))
   rw [hI]
   exact ⟨⟨k + 1, hlt, f0, f1, f2, rfl, by rw [hnx2]; exact r2, st2', fun q hq hq2 => by rw [← hot q hq hq2, ← use_get o3 m' 2 q]; rw [M.get_upd, if_neg (fun h => hq h.1)]⟩, by omega⟩
end Go.Proofs.Ytaealemhegdmpaa

/-
 The reference's graph (layer 11): reads.
-/
set_option linter.unusedVariables false
set_option linter.unusedSimpArgs false
namespace Go.Proofs.Ytaealemhegdmpaa
open Nat renaming reduceEqDiff → jA, reduceAdd → jB, reduceMul → jC, reduceLT → jD, reduceLeDiff → jE, reduceBEq → jF, reduceBNe → jG
open Int renaming reduceLE → jH, reduceLT → jI, reduceToNat → jJ, reduceEq → jK
open Go
set_option maxRecDepth 20000
-- TNAMES: int; uint8; int32; string; bool; []string; []api.Expr; api.Expr; api.Pos; []api.Pos; []int; [2]int; [][2]int; []bool; [][]bool; metronomeref11.Graph; *metronomeref11.Graph


def addI (l : List Int) (x : Int) : List Int := if x ∈ l then l else l ++ [x]
/-- Places of names, each once, after those of a list. -/
def rdI (N : List Str) (see : List Nat) (l : List Int) (ns : List Str) : List Int := ns.foldl (fun a s => addI a (fndN N see s)) l
theorem rdI_take {N : List Str} {see : List Nat} {l : List Int} {ns : List Str} {k : Nat} (h : k < ns.length) : rdI N see l (ns.take (k + 1)) = addI (rdI N see l (ns.take k)) (fndN N see ns[k]) := by
 unfold rdI; rw [List.take_succ_eq_append_getElem h, List.foldl_append]; rfl
theorem addI_mem {l : List Int} {x y : Int} : y ∈ addI l x ↔ y ∈ l ∨ y = x := by
 unfold addI
 split
 ·rename_i h
  exact ⟨.inl, fun h2 => h2.elim id (fun e => e ▸ h)⟩
 ·simp
theorem rdI_mem (N : List Str) (see : List Nat) : ∀ (ns : List Str) (l : List Int) (y : Int), y ∈ rdI N see l ns ↔ y ∈ l ∨ y ∈ ns.map (fndN N see)
 | [], l, y => by simp [rdI]
 | s :: ns, l, y => by
  show y ∈ rdI N see (addI l (fndN N see s)) ns ↔ _
  rw [rdI_mem N see ns, addI_mem, List.map_cons, List.mem_cons]
  constructor
  ·rintro ((h | h) | h)
   ·exact .inl h
   ·exact .inr (.inl h)
   ·exact .inr (.inr h)
  ·rintro (h | h | h)
   ·exact .inl (.inl h)
   ·exact .inl (.inr h)
   ·exact .inr h
theorem addI_len (l : List Int) (x : Int) : (addI l x).length ≤ l.length + 1 := by
 unfold addI; split <;> simp
theorem rdI_len (N : List Str) (see : List Nat) : ∀ (ns : List Str) (l : List Int), (rdI N see l ns).length ≤ l.length + ns.length
 | [], l => Nat.le_refl _
 | s :: ns, l => by
  have h1 := rdI_len N see ns (addI l (fndN N see s))
  have h2 := addI_len l (fndN N see s)
  show (rdI N see (addI l (fndN N see s)) ns).length ≤ _
  rw [List.length_cons]; omega
set_option maxHeartbeats 4000000 in
theorem rreads_any (gid : Nat) (o1 o2 o3 : Own) (N : List Str) (A P : List (Int × Int)) (l : List Int) (see : List Nat) (e : Ex) (m : M) (hb : m.get gid = some (rgC o1 o2 o3 N A P)) (hs : ∀ i ∈ see, i < N.length) (hsl : see.length < 2 ^ 40) (he : e.shp = true) (hz : e.size ≤ 1000) (hl : l.length < 2 ^ 40) :
    ACalls Try.prog 34 [.bp gid 0, .sl .no (l.map pI), .sl .no (see.map pN), e.pv] m (fun v m' => v = .sl .no ((rdI N see l (e.reads true [])).map pI) ∧ m' = m) := by
 refine ACalls.enter (mu := []) ok_mix Try.func34 rfl (by kernel_rfl) (by kernel_rfl) (by simp only [List.length_cons, List.length_nil, Try.ntmps34]; omega) ?_
 have hmx : l.length + 1 ≤ maxLen := by unfold maxLen; omega
 have hn1 := intsQ l
 have hrl := reads_len true [] e
 have hrr := fun m => rReads_any true e [] m he (by simp; omega)
 (repeat (first | refine aSeq fun X hX => ?_ | refine aReg ?_; simp -implicitDefEqProofs only [↓slp, ↓reduceIte, jA, jB, jE, Y0]; try simp only [fo] | apply hX; clear hX X | apply And.intro; focus ((repeat' apply And.intro) <;> first | omega | assumption)))
 refine callMS (hrr _) (by simp only [List.map_cons, List.map_nil, PV.settle, PV.settles, Ex.settle_pv]) ?_
 rintro v mv ⟨rfl, rfl⟩
 generalize e.reads true [] = ns at *
 simp only [List.length_nil, Nat.zero_add] at hrl
 simp -implicitDefEqProofs only [↓slp, ↓reduceIte, Y0]; try simp only [fo]
 (repeat (first | refine aSeq fun X hX => ?_ | refine aBlk ?_ | refine aReg ?_; simp -implicitDefEqProofs only [↓slp, Y0]; try simp only [fo] | apply hX; clear hX X))
 have t1 : Toks m (m.fresh 1) := (Toks.refl m).use (o := .full) (s := 1) (s' := 1) .full
 have m1 : Mine m (m.fresh 1) (.tok m.nt) 1 := Mine.new (o := .full) (Toks.refl m) 1
 obtain ⟨I, hI⟩ : ∃ I : F → M → Prop, ∀ f m', I f m' = (∃ (k : Nat) (o : Own), k ≤ ns.length ∧ f 0 = .bp gid 0 ∧ f 2 = .sl .no (see.map pN) ∧ f 9 = .sl o ((rdI N see l (ns.take k)).map pI) ∧ f 10 = .sl .no (ns.map pS) ∧ f 11 = pI k ∧ Toks m m' ∧ Mine m m' o 1) := ⟨_, fun _ _ => rfl⟩
 refine aLoop I (fun f m => ns.length - numOf (f 11)) ?_ ?_
 ·rw [hI]; exact ⟨0, .tok m.nt, by omega, rfl, rfl, rfl, rfl, rfl, t1, m1⟩
 clear t1 m1
 intro f m' hrel
 rw [hI] at hrel
 obtain ⟨k, o, hk, f0, f2, f9, f10, f11, htk, hmi⟩ := hrel
 cases c1 : decide ((k : Int) < (ns.length : Int)) with
 | false =>
  obtain rfl : k = ns.length := by simp at c1; omega
  rw [List.take_length] at f9
  (repeat (first | refine aSeq fun X hX => ?_ | (first | refine aExit ?_ | refine aRet ?_); try simp only [slx, ↓reduceIte, jA, reduceCtorEq] | (first | apply aReg | apply aIf); simp -implicitDefEqProofs only [↓slp, ↓reduceIte, jA, Y0, f9, f10, f11, pI, c1] | apply hX; clear hX X | clear hX X; apply hX; clear hX X | intro hlen; unfold maxLen at hlen))
  simp only [aPost, Try.results34, aRes_n, aRes_t, aRes_c, pack_one, pack_two]
  simp -implicitDefEqProofs only [slb, ↓reduceIte]
  exact leave_toks0 htk rfl ⟨rfl, rfl⟩
 | true =>
  have hlt : k < ns.length := by simpa using c1
  have g0 := getD_map pS ns k hlt
  have hi : IntKind.i64.wrap ((k : Int) + 1) = ((k + 1 : Nat) : Int) := by rw [wrap64 (by omega)]; omega
  have hme : numOf (f 11) = k := by rw [f11]; exact Int.toNat_natCast k
  have hnx := rdI_take (N := N) (see := see) (l := l) hlt
  have hal := rdI_len N see (ns.take k) l
  rw [List.length_take] at hal
  have hb' : m'.get gid = some (rgC o1 o2 o3 N A P) := by
   have : m'.boxes = m.boxes := htk.boxes
   unfold M.get at hb ⊢; rw [this]; exact hb
  have hf := rfind_any gid o1 o2 o3 N A P see ns[k] m' hb' hs hsl
  generalize rdI N see l (ns.take k) = R at *
  (repeat (first | refine aSeq fun X hX => ?_ | refine aSkip ?_ | (first | apply aReg | apply aIf); simp -implicitDefEqProofs only [↓slp, ↓reduceIte, reduceCtorEq, jA, jB, Y0, f0, f2, f10, f11, pI, pS, c1, g0] | apply hX; clear hX X | intro hlen; unfold maxLen at hlen | apply And.intro; focus omega))
  refine callE hf ?_
  generalize fndN N see ns[k] = x at *
  simp -implicitDefEqProofs only [↓slp, slb, ↓reduceIte]
  (repeat (first | refine aSeq fun X hX => ?_ | refine aBlk ?_ | refine aReg ?_; simp -implicitDefEqProofs only [↓slp, slb] | apply hX; clear hX X))
  obtain ⟨J, hJ⟩ : ∃ J : F → M → Prop, ∀ f m2, J f m2 = (∃ j : Nat, j ≤ R.length ∧ f 0 = .bp gid 0 ∧ f 2 = .sl .no (see.map pN) ∧ f 9 = .sl o (R.map pI) ∧ f 10 = .sl .no (ns.map pS) ∧ f 11 = pI k ∧ f 12 = pI x ∧ f 13 = pB (decide (x ∈ R.take j)) ∧ f 14 = pI j ∧ m2 = m') := ⟨_, fun _ _ => rfl⟩
  refine aLoop J (fun f m => R.length - numOf (f 14)) ?_ ?_
  ·rw [hJ]; exact ⟨0, by omega, f0, f2, f9, f10, f11, rfl, rfl, rfl, rfl⟩
  clear f0 f2 f9 f10 f11
  intro f m2 hrel
  rw [hJ] at hrel
  obtain ⟨j, hj, f0, f2, f9, f10, f11, f12, f13, f14, rfl⟩ := hrel
  cases c2 : decide ((j : Int) < (R.length : Int)) with
  | true =>
   have hltj : j < R.length := by simpa using c2
   have gj := getD_map pI R j hltj
   have hij : IntKind.i64.wrap ((j : Int) + 1) = ((j + 1 : Nat) : Int) := by rw [wrap64 (by omega)]; omega
   have hmej : numOf (f 14) = j := by rw [f14]; exact Int.toNat_natCast j
   have hmm : (x ∈ R.take (j + 1)) ↔ (x ∈ R.take j ∨ R[j] = x) := by
    rw [List.take_succ_eq_append_getElem hltj, List.mem_append, List.mem_singleton]
    exact ⟨fun h => h.imp id Eq.symm, fun h => h.imp id Eq.symm⟩
   cases c3 : decide (x ∈ R.take j) with
   | true =>
    rw [c3] at f13
    have c4 : decide (x ∈ R.take (j + 1)) = true := by simp only [decide_eq_true_eq] at c3 ⊢; exact hmm.2 (.inl c3)
    (repeat (first | refine aSeq fun X hX => ?_ | refine aBlk ?_ | refine aSkip ?_ | (first | apply aReg | apply aIf); simp -implicitDefEqProofs only [↓slp, ↓reduceIte, reduceCtorEq, jA, Y0, f9, f13, f14, pI, pB, c2, hij] | apply hX; clear hX X | intro hlen; unfold maxLen at hlen))
    rw [hJ]
    exact ⟨⟨j + 1, hltj, f0, f2, f9, f10, f11, f12, by rw [c4]; rfl, rfl, rfl⟩, by omega⟩
   | false =>
    rw [c3] at f13
    generalize R[j] = y at *
    cases c5 : (y == x) with
    | true =>
     have c4 : decide (x ∈ R.take (j + 1)) = true := by simp only [decide_eq_true_eq]; exact hmm.2 (.inr (by simpa using c5))
     (repeat (first | refine aSeq fun X hX => ?_ | refine aBlk ?_ | refine aSkip ?_ | (first | apply aReg | apply aIf); simp -implicitDefEqProofs only [↓slp, ↓reduceIte, reduceCtorEq, jA, jB, Y0, f9, f12, f13, f14, pI, pB, c2, gj, hij, c5, hltj] | apply hX; clear hX X | intro hlen; unfold maxLen at hlen))
     rw [hJ]
     exact ⟨⟨j + 1, hltj, f0, f2, f9, f10, f11, f12, by rw [c4]; rfl, rfl, rfl⟩, by omega⟩
    | false =>
     have c4 : decide (x ∈ R.take (j + 1)) = false := by
      simp only [decide_eq_false_iff_not] at c3 ⊢
      exact fun h => (hmm.1 h).elim c3 (fun q => by rw [q] at c5; simp at c5)
     (repeat (first | refine aSeq fun X hX => ?_ | refine aBlk ?_ | refine aSkip ?_ | (first | apply aReg | apply aIf); simp -implicitDefEqProofs only [↓slp, ↓reduceIte, reduceCtorEq, jA, jB, Y0, f9, f12, f13, f14, pI, pB, c2, gj, hij, c5, hltj] | apply hX; clear hX X | intro hlen; unfold maxLen at hlen))
     rw [hJ]
     exact ⟨⟨j + 1, hltj, f0, f2, f9, f10, f11, f12, by rw [c4]; rfl, rfl, rfl⟩, by omega⟩
  | false =>
   obtain rfl : j = R.length := by simp at c2; omega
   rw [List.take_length] at f13
   have hfr := hmi.free
   have hn2 := intsQ R
   have hmx2 : R.length + 1 ≤ maxLen := by unfold maxLen; omega
   cases c3 : decide (x ∈ R) with
   | true =>
    rw [c3] at f13
    (repeat (first | refine aSeq fun X hX => ?_ | refine aSkip ?_ | refine aExit ?_; try simp only [slx, ↓reduceIte, jA, reduceCtorEq] | (first | apply aReg | apply aIf); simp -implicitDefEqProofs only [↓slp, ↓reduceIte, jA, Y0, f9, f11, f13, f14, pI, pB, c2, hi] | apply hX; clear hX X | clear hX X; apply hX; clear hX X | intro hlen; unfold maxLen at hlen))
    rw [hI]
    exact ⟨⟨k + 1, o, hlt, f0, f2, by rw [hnx, addI, if_pos (by simpa using c3)]; exact f9, f10, rfl, htk, hmi⟩, by omega⟩
   | false =>
    rw [c3] at f13
    (repeat (first | refine aSeq fun X hX => ?_ | refine aExit ?_; try simp only [slx, ↓reduceIte, jA, reduceCtorEq] | (first | apply aReg | apply aIf); simp -implicitDefEqProofs only [forall_eq, ↓slp, ↓reduceIte, reduceCtorEq, jA, jB, jC, jE, Y0, f9, f11, f12, f13, f14, pI, pB, c2, hi] | apply hX; clear hX X | clear hX X; apply hX; clear hX X | intro hlen; unfold maxLen at hlen | apply And.intro; focus ((repeat' apply And.intro) <;> first | omega | assumption)))
    rw [hI]
    exact ⟨⟨k + 1, .tok m2.nt, hlt, f0, f2, by rw [hnx, addI, if_neg (by simpa using c3), List.map_append]; rfl, f10, rfl, htk.use hmi, Mine.new htk o 1⟩, by omega⟩
end Go.Proofs.Ytaealemhegdmpaa
