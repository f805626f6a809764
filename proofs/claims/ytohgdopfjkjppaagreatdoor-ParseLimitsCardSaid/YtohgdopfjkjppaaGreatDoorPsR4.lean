/-
 The reference's reader: atoms, and all of expressions.
-/
-- halved
import Derived.Test.YtohgdopfjkjppaaGreatDoorAbMac
import Derived.Test.YtohgdopfjkjppaaGreatDoorPsR3
set_option linter.unusedSectionVars false
set_option linter.unusedVariables false
set_option linter.unusedSimpArgs false
namespace Go.Proofs.YtohgdopfjkjppaaGreatDoor
open Nat renaming reduceEqDiff → jA, reduceAdd → jB, reduceMul → jC, reduceLT → jD, reduceLeDiff → jE, reduceBEq → jF, reduceBNe → jG
open Int renaming reduceLE → jH, reduceLT → jI, reduceToNat → jJ, reduceEq → jK
open Go
set_option maxRecDepth 20000
set_option linter.defProp false
def tfPsR4 := tfPsR1

def isQ1 (L : List Tk) (a : Nat) (m : M) (c : List PV) (d : Int) (m2 : M) : Prop := ∃ ts x s r, m2 = qst L a ((⟨m.boxes, ts⟩ : M).ext (x :: some c :: r)) s d
theorem isQ1_all {L : List Tk} {a : Nat} {m : M} {c : List PV} {d : Int} {Q : M → Prop} : (∀ m2, isQ1 L a m c d m2 → Q m2) = ∀ ts x s r, Q (qst L a ((⟨m.boxes, ts⟩ : M).ext (x :: some c :: r)) s d) :=
 propext ⟨fun h ts x s r => h _ ⟨ts, x, s, r, rfl⟩, fun h m2 ⟨ts, x, s, r, e⟩ => e ▸ h ts x s r⟩
theorem isQ1_of {L : List Tk} {a : Nat} {m mm : M} {c : List PV} {x : Option (List PV)} {r : List (Option (List PV))} {s : PS} {d : Int} (h : mm.boxes = m.boxes) : isQ1 L a m c d (qst L a (mm.ext (x :: some c :: r)) s d) := by
 refine ⟨mm.toks, x, s, r, ?_⟩
 rw [← h]
theorem qst_gx1 {L : List Tk} {a : Nat} {m : M} {c : List PV} {ts : List (Option Nat)} {x : Option (List PV)} {r : List (Option (List PV))} {s : PS} {d : Int} (hA : a < m.nb) : (qst L a ((⟨m.boxes, ts⟩ : M).ext (x :: some c :: r)) s d).get (m.nb + 1) = some c := by
 have := qst_own (L := L) (a := a) (m := (⟨m.boxes, ts⟩ : M)) (s := s) (d := d) (bs := x :: some c :: r) (k := m.nb) (j := 1) rfl hA
 rw [this]; rfl
theorem exs_one8 (l : List Ex) : ∀ x ∈ l.map Ex.pv, x.cells.length = 8 := fun x hx => by
 obtain ⟨a, _, rfl⟩ := List.mem_map.1 hx
 rw [Ex.cells_pv]; rfl
theorem strs_one1 (l : List Str) : ∀ x ∈ l.map pS, x.cells.length = 1 := fun x hx => by
 obtain ⟨a, _, rfl⟩ := List.mem_map.1 hx; rfl
section
variable {L : List Tk} (hL : TksOk L) {f : Nat} (IH : ∀ g, g ≤ f → QExC L g)
include hL IH
set_option maxHeartbeats 16000000 in
theorem qatom_step (a : Nat) (m : M) (hA : a < m.nb) (s : PS) (hs : s.ok L) (k0 : s.k = 0) (d : Int) (hd : 0 ≤ d ∧ d ≤ 64) (hf : mu L s + 1 ≤ f + 1) : ACalls Tryz.prog 114 [.bp a 0] (qst L a m s d) (fun v m' => v = (rAtom L (f + 1) d s).1.pv ∧ m' = qst L a m (rAtom L (f + 1) d s).2 d) := by
 have hsk : ∀ (s : PS) w, s.skp L w = if s.is L w then s.nx else s := fun _ _ => rfl
 have hmem := tk_mem hs
 have hi : IntKind.i64.wrap ((s.i : Int) + 1) = ((s.i + 1 : Nat) : Int) := by have := hs.lt; have := hL.le; rw [wrap64 (by omega)]; omega
 have hnk := fun h => nx_adv hL hs k0 h
 have hmk := fun h => mu_nx hL hs k0 h
 have hnum := hL.num _ hmem
 have hun : rAtom L (f + 1) d s = (if (s.tk L).kind == 1 then
     (if !eqS (s.tk L).text ⟨#[]⟩ && (s.tk L).n == -2147483648 then (atE (s.tk L), s.here L 3) else (.mk 1 0 (s.tk L).n ⟨#[]⟩ [] [] (s.tk L).line (s.tk L).col, s.nx))
  else if (s.tk L).kind == 2 then (.mk 4 0 0 (s.tk L).text [] [] (s.tk L).line (s.tk L).col, s.nx)
  else if (s.tk L).kind == 3 then (.mk 3 0 0 (s.tk L).text [] [] (s.tk L).line (s.tk L).col, s.nx)
  else if s.is L wTrue then (.mk 2 0 1 ⟨#[]⟩ [] [] (s.tk L).line (s.tk L).col, s.nx)
  else if s.is L wFalse then (.mk 2 0 0 ⟨#[]⟩ [] [] (s.tk L).line (s.tk L).col, s.nx)
  else if s.is L wLast then (.mk 5 0 0 (rName L 2 s.nx).1 [] [] (s.tk L).line (s.tk L).col, (rName L 2 s.nx).2)
  else if s.is L wOpen then ((rExpr L f d s.nx).1, (rExpr L f d s.nx).2.want L wShut)
  else if s.is L wMerge then rMerge L f d (s.tk L) (rName L 2 s.nx).1 [] [] (rName L 2 s.nx).2
  else (atE (s.tk L), s.here L 2)) := by rw [rAtom]
 have isk : ∀ {w}, s.is L w = true → (s.tk L).kind ≠ 0 := fun h => (is_of h).2.1
 refine eN [2, 4] Tryz.func114 ?_
 (repeat revert X); refine wE (And.intro tfPsR4 hA) ?_; repeat intro X hX
 refine callM (qtok_any hL a _ xA s hs d) ?_
 rintro v m' ⟨rfl, rfl⟩
 generalize s.tk L = t at *
 obtain ⟨c1, g1⟩ : ∃ b, (t.kind == 1) = b := ⟨_, rfl⟩
 obtain ⟨c2, g2⟩ : ∃ b, (t.kind == 2) = b := ⟨_, rfl⟩
 obtain ⟨c3, g3⟩ : ∃ b, (t.kind == 3) = b := ⟨_, rfl⟩
 rw [g1, g2, g3] at hun
 have fin : ∀ {e : Ex} {s2 : PS} {v : PV}, rAtom L (f + 1) d s = (e, s2) → v.settle = e.pv → v.settle.pure = true → True := fun _ _ _ => trivial
 cases c1 with
 | true =>
  have hk : t.kind = 1 := by simpa using g1
  have hte : eqS t.text ⟨#[]⟩ = false := by
   cases h : eqS t.text ⟨#[]⟩ with
   | false => rfl
   | true => exact absurd (eqS_iff.1 h) (hnum hk)
  have hte2 : (t.text.toList == (⟨#[]⟩ : ByteArray).toList) = false := hte
  obtain ⟨c4, g4⟩ : ∃ b, (t.n == -2147483648) = b := ⟨_, rfl⟩
  rw [if_pos rfl, hte, g4, Bool.not_false, Bool.true_and] at hun
  cases c4 with
  | true =>
   rw [if_pos rfl] at hun
   refine wS tfPsR4 ?_
   (repeat revert X); refine wE (And.intro tfPsR4 (And.intro hA (And.intro g1 (And.intro hte2 g4)))) ?_; repeat intro X hX
   refine callM (qhere_any hL a _ xA s hs d 3) ?_
   rintro v m' rfl
   refine wS aEQ_t ?_
   (repeat revert X); refine wE (And.intro tfPsR4 hA) ?_; repeat intro X hX
   refine wQ Tryz.results114 (And.intro tfPsR4 hA) ?_
   exact leave_qst hA (.refl m) rfl ⟨by rw [hun, Ex.pv_eq]; rfl, by rw [hun]⟩
  | false =>
   rw [if_neg (by simp)] at hun
   refine wS tfPsR4 ?_
   (repeat revert X); refine wE (And.intro tfPsR4 (And.intro hA (And.intro g1 (And.intro hte2 (And.intro g4 hi))))) ?_; repeat intro X hX
   refine wQ Tryz.results114 (And.intro tfPsR4 hA) ?_
   exact leave_qst hA (.refl m) rfl ⟨by rw [hun, Ex.pv_eq]; rfl, by rw [hun]; rfl⟩
 | false =>
 rw [if_neg (by simp)] at hun
 cases c2 with
 | true =>
  rw [if_pos rfl] at hun
  refine wS tfPsR4 ?_
  (repeat revert X); refine wE (And.intro tfPsR4 (And.intro hA (And.intro g1 (And.intro g2 hi)))) ?_; repeat intro X hX
  refine wQ Tryz.results114 (And.intro tfPsR4 hA) ?_
  exact leave_qst hA (.refl m) rfl ⟨by rw [hun, Ex.pv_eq]; rfl, by rw [hun]; rfl⟩
 | false =>
 rw [if_neg (by simp)] at hun
 cases c3 with
 | true =>
  rw [if_pos rfl] at hun
  refine wS tfPsR4 ?_
  (repeat revert X); refine wE (And.intro tfPsR4 (And.intro hA (And.intro g1 (And.intro g2 (And.intro g3 hi))))) ?_; repeat intro X hX
  refine wQ Tryz.results114 (And.intro tfPsR4 hA) ?_
  exact leave_qst hA (.refl m) rfl ⟨by rw [hun, Ex.pv_eq]; rfl, by rw [hun]; rfl⟩
 | false =>
 rw [if_neg (by simp)] at hun
 refine wS tfPsR4 ?_
 (repeat revert X); refine wE (And.intro tfPsR4 (And.intro hA (And.intro g1 (And.intro g2 g3)))) ?_; repeat intro X hX
 refine callM (qis_any hL a _ xA s hs d wTrue) ?_
 rintro v m' ⟨rfl, rfl⟩
 cases h1 : s.is L wTrue with
 | true =>
  rw [h1, if_pos rfl] at hun
  refine wS @pB.eq_1 ?_
  (repeat revert X); refine wE (And.intro tfPsR4 (And.intro hA hi)) ?_; repeat intro X hX
  refine wQ Tryz.results114 (And.intro tfPsR4 hA) ?_
  exact leave_qst hA (.refl m) rfl ⟨by rw [hun, Ex.pv_eq]; rfl, by rw [hun]; rfl⟩
 | false =>
 rw [h1, if_neg (by simp)] at hun
 refine wS @pB.eq_1 ?_
 (repeat revert X); refine wE aEQ_t ?_; repeat intro X hX
 refine callM (qis_any hL a _ xA s hs d wFalse) ?_
 rintro v m' ⟨rfl, rfl⟩
 cases h2 : s.is L wFalse with
 | true =>
  rw [h2, if_pos rfl] at hun
  refine wS @pB.eq_1 ?_
  (repeat revert X); refine wE (And.intro tfPsR4 (And.intro hA hi)) ?_; repeat intro X hX
  refine wQ Tryz.results114 (And.intro tfPsR4 hA) ?_
  exact leave_qst hA (.refl m) rfl ⟨by rw [hun, Ex.pv_eq]; rfl, by rw [hun]; rfl⟩
 | false =>
 rw [h2, if_neg (by simp)] at hun
 refine wS @pB.eq_1 ?_
 (repeat revert X); refine wE aEQ_t ?_; repeat intro X hX
 refine callM (qskip_any hL a _ xA s hs d wLast) ?_
 rintro v m' ⟨rfl, rfl⟩
 rw [hsk]
 cases h3 : s.is L wLast with
 | true =>
  rw [h3, if_pos rfl] at hun
  rw [if_pos rfl]
  have a1 := hnk (isk h3)
  refine wS @pB.eq_1 ?_
  (repeat revert X); refine wE (And.intro tfPsR4 hA) ?_; repeat intro X hX
  refine callM (qname_any hL a _ xA s.nx a1.ok d 2) ?_
  rintro v m' ⟨rfl, rfl⟩
  generalize rName L 2 s.nx = x at *
  refine wS (And.intro tfPsR4 hA) ?_
  (repeat revert X); refine wE (And.intro tfPsR4 hA) ?_; repeat intro X hX
  refine wQ Tryz.results114 (And.intro tfPsR4 hA) ?_
  exact leave_qst hA (.refl m) rfl ⟨by rw [hun, Ex.pv_eq]; rfl, by rw [hun]⟩
 | false =>
 rw [h3, if_neg (by simp)] at hun
 rw [if_neg (by simp)]
 refine wS @pB.eq_1 ?_
 (repeat revert X); refine wE aEQ_t ?_; repeat intro X hX
 refine callM (qskip_any hL a _ xA s hs d wOpen) ?_
 rintro v m' ⟨rfl, rfl⟩
 rw [hsk]
 cases h4 : s.is L wOpen with
 | true =>
  rw [h4, if_pos rfl] at hun
  rw [if_pos rfl]
  have a1 := hnk (isk h4)
  have m1 := hmk (isk h4)
  have a2 := ((exL hL f).expr d _ a1.ok (by omega)).1
  have hce := (IH f (Nat.le_refl _)).expr a
  refine wS @pB.eq_1 ?_
  (repeat revert X); refine wE aEQ_t ?_; repeat intro X hX
  refine callM (hce _ xA s.nx a1.ok d hd (by omega)) ?_
  rintro v m' ⟨rfl, rfl⟩
  generalize rExpr L f d s.nx = x at *
  refine wS tfPsR4 ?_
  (repeat revert X); refine wE tfPsR4 ?_; repeat intro X hX
  refine callM (qwant_any hL a _ xA _ a2.ok d wShut) ?_
  rintro v m' rfl
  refine wS tfPsR4 ?_
  (repeat revert X); refine wE (And.intro tfPsR4 hA) ?_; repeat intro X hX
  refine wQ Tryz.results114 (And.intro tfPsR4 hA) ?_
  exact leave_qstE hA (.refl m) ⟨by rw [hun], by rw [hun]⟩
 | false =>
 rw [h4, if_neg (by simp)] at hun
 rw [if_neg (by simp)]
 refine wS @pB.eq_1 ?_
 (repeat revert X); refine wE aEQ_t ?_; repeat intro X hX
 refine callM (qskip_any hL a _ xA s hs d wMerge) ?_
 rintro v m' ⟨rfl, rfl⟩
 rw [hsk]
 cases h5 : s.is L wMerge with
 | false =>
  rw [h5, if_neg (by simp)] at hun
  rw [if_neg (by simp)]
  refine wS @pB.eq_1 ?_
  (repeat revert X); refine wE aEQ_t ?_; repeat intro X hX
  refine callM (qhere_any hL a _ xA s hs d 2) ?_
  rintro v m' rfl
  refine wS aEQ_t ?_
  (repeat revert X); refine wE (And.intro tfPsR4 hA) ?_; repeat intro X hX
  refine wQ Tryz.results114 (And.intro tfPsR4 hA) ?_
  exact leave_qst hA (.refl m) rfl ⟨by rw [hun, Ex.pv_eq]; rfl, by rw [hun]⟩
 | true =>
 rw [h5, if_pos rfl] at hun
 rw [if_pos rfl]
 have a1 := hnk (isk h5)
 have m1 := hmk (isk h5)
 have a2 := name_adv hL a1.ok (kd := 2) (by decide)
 have m2 := mu_le a2
 refine wS @pB.eq_1 ?_
 (repeat revert X); refine wE (And.intro tfPsR4 hA) ?_; repeat intro X hX
 refine callM (qname_any hL a _ xA s.nx a1.ok d 2) ?_
 rintro v m' ⟨rfl, rfl⟩
 generalize rName L 2 s.nx = x at *
 refine wS (And.intro tfPsR4 hA) ?_
 (repeat revert X); refine wE aEQ_t ?_; repeat intro X hX
 clear fin isk hnk hmk
 obtain ⟨I, hI⟩ : ∃ I : Nat → F → M → Prop, ∀ n g m', I n g m' = (∃ (ns : List Str) (ks : List Ex) (s1 : PS) (on ok : Own) (mm : M), s1.ok L ∧ mu L s1 + 1 ≤ n ∧ n ≤ f ∧ ks.length ≤ 32 ∧ ns.length = ks.length ∧ rAtom L (f + 1) d s = rMerge L n d t x.1 ns ks s1 ∧ g 0 = .bp a 0 ∧ g 2 = .bp m.nb 0 ∧ g 4 = .bp (m.nb + 1) 0 ∧ m' = qst L a (mm.ext [some [.v (.int .u8 0), .v (.int .u8 0), .v (.int .i32 0), .v (.string ⟨#[]⟩), .sl .full [], .sl .full [], .v (.int .i64 0), .v (.int .i64 0)], some [.v (.int .u8 13), .v (.int .u8 0), .v (.int .i32 0), .v (.string x.1), .sl on (ns.map pS), .sl ok (ks.map Ex.pv), .v (.int .i64 t.line), .v (.int .i64 t.col)]]) s1 d ∧ Toks m mm ∧ Mine m mm on 1 ∧ Mine m mm ok 8 ∧ (∀ t, on = .tok t → ok ≠ .tok t)) := ⟨_, fun _ _ _ => rfl⟩
 refine aLoopN I f ?_ ?_
 ·rw [hI]; exact ⟨[], [], x.2, .full, .full, m, a2.ok, by omega, Nat.le_refl _, by decide, rfl, hun, rfl, rfl, rfl, rfl, .refl m, .full, .full, fun t h => by cases h⟩
 intro W n g m' hrel hW
 rw [hI] at hrel
 obtain ⟨ns, ks, s1, on, ok, mm, hs1, hn, hnf, hkl, hnl, hr, f0, f2, f4, rfl, ht, hon, hok, hne⟩ := hrel
 obtain ⟨n, rfl⟩ : ∃ k, n = k + 1 := ⟨n - 1, by omega⟩
 have hnb := ht.nb
 have hAm : a < mm.nb := by omega
 have hun2 : rMerge L (n + 1) d t x.1 ns ks s1 = if s1.is L wOpen then (if ks.length == 32 then (.mk 13 0 0 x.1 ns ks t.line t.col, s1.here L 3) else rMerge L n d t x.1 (ns ++ [(rCtor L (s1.want L wOpen)).1]) (ks ++ [(rExpr L n d ((rCtor L (s1.want L wOpen)).2.want L wArrow)).1]) ((rExpr L n d ((rCtor L (s1.want L wOpen)).2.want L wArrow)).2.want L wShut)) else (.mk 13 0 0 x.1 ns ks t.line t.col, if ks.length == 0 then s1.here L 2 else s1) := by rw [rMerge]
 obtain ⟨c6, g6⟩ : ∃ b, (ks.length == 0) = b := ⟨_, rfl⟩
 obtain ⟨c7, g7⟩ : ∃ b, (ks.length == 32) = b := ⟨_, rfl⟩
 have g6i : ((ks.length : Int) == 0) = c6 := by rw [← g6]; cases hq : (ks.length == 0) <;> simp at hq ⊢ <;> omega
 have g7i : ((ks.length : Int) == 32) = c7 := by rw [← g7]; cases hq : (ks.length == 32) <;> simp at hq ⊢ <;> omega
 rw [g6, g7] at hun2
 (repeat revert X); refine wE f0 ?_; repeat intro X hX
 refine callM (qis_any hL a _ xA s1 hs1 d wOpen) ?_
 rintro v m' ⟨rfl, rfl⟩
 cases h6 : s1.is L wOpen with
 | false =>
  rw [h6, if_neg (by simp)] at hun2
  cases c6 with
  | true =>
   rw [if_pos rfl] at hun2
   refine wS @pB.eq_1 ?_
   (repeat revert X); refine wE (And.intro tfPsR4 (And.intro f0 (And.intro f4 (And.intro hnb (And.intro hA g6i))))) ?_; repeat intro X hX
   refine callM (qhere_any hL a _ xA s1 hs1 d 2) ?_
   rintro v m' rfl
   refine wS aEQ_t ?_
   (repeat revert X); refine wE (And.intro tfPsR4 (And.intro f2 (And.intro f4 (And.intro hnb hA)))) ?_; repeat intro X hX
   refine wQ Tryz.results114 (And.intro tfPsR4 (And.intro f2 (And.intro hnb hA))) ?_
   exact leave_qst hA ht rfl ⟨by rw [hr, hun2, Ex.pv_eq]; rfl, by rw [hr, hun2]⟩
  | false =>
   rw [if_neg (by simp)] at hun2
   refine wS @pB.eq_1 ?_
   (repeat revert X); refine wE (And.intro tfPsR4 (And.intro f2 (And.intro f4 (And.intro hnb (And.intro hA g6i))))) ?_; repeat intro X hX
   refine wQ Tryz.results114 (And.intro tfPsR4 (And.intro f2 (And.intro hnb hA))) ?_
   exact leave_qst hA ht rfl ⟨by rw [hr, hun2, Ex.pv_eq]; rfl, by rw [hr, hun2]⟩
 | true =>
  rw [h6, if_pos rfl] at hun2
  cases c7 with
  | true =>
   have hk32 : ks.length = 32 := by simpa using g7
   have g8 : ((ks.length : Int) == 0) = false := by rw [hk32]; rfl
   rw [if_pos rfl] at hun2
   refine wS @pB.eq_1 ?_
   (repeat revert X); refine wE (And.intro tfPsR4 (And.intro f0 (And.intro f4 (And.intro hnb (And.intro hA g7i))))) ?_; repeat intro X hX
   refine callM (qhere_any hL a _ xA s1 hs1 d 3) ?_
   rintro v m' rfl
   refine wS aEQ_t ?_
   (repeat revert X); refine wE (And.intro tfPsR4 (And.intro f2 (And.intro f4 (And.intro hnb (And.intro hA g8))))) ?_; repeat intro X hX
   refine wQ Tryz.results114 (And.intro tfPsR4 (And.intro f2 (And.intro hnb hA))) ?_
   exact leave_qst hA ht rfl ⟨by rw [hr, hun2, Ex.pv_eq]; rfl, by rw [hr, hun2]⟩
  | false =>
   rw [if_neg (by simp)] at hun2
   have hw : s1.want L wOpen = s1.nx := by unfold PS.want; rw [if_pos h6]
   have b1 := is_adv hL hs1 h6
   have n1 := mu_nx hL hs1 (is_of h6).1 (is_of h6).2.1
   rw [hw] at hun2
   have b2 := ctor_adv hL b1.ok
   have b3 := want_adv hL b2.ok wArrow
   have n3 := mu_le (b2.trans b3)
   have b4 := ((exL hL n).expr d _ b3.ok (by omega)).1
   have b5 := want_adv hL b4.ok wShut
   have n5 := mu_le (b4.trans b5)
   have hce := (IH n (by omega)).expr a
   have hk33 : ks.length < 32 := by have : ks.length ≠ 32 := by simpa using g7
                                    omega
   refine wS @pB.eq_1 ?_
   (repeat revert X); refine wE (And.intro tfPsR4 (And.intro f0 (And.intro f4 (And.intro hnb (And.intro hA g7i))))) ?_; repeat intro X hX
   refine callM (qwant_any hL a _ xA s1 hs1 d wOpen) ?_
   rintro v m' rfl
   rw [hw]
   refine wS aEQ_t ?_
   (repeat revert X); refine wE aEQ_t ?_; repeat intro X hX
   refine aDrwE (isQ1 L a m [.v (.int .u8 13), .v (.int .u8 0), .v (.int .i32 0), .v (.string x.1), .sl on (ns.map pS), .sl ok (ks.map Ex.pv), .v (.int .i64 t.line), .v (.int .i64 t.col)] d) (hne := List.cons_ne_nil _ _) rfl (by kernel_rfl) (by kernel_rfl) (isQ1_of ht.boxes) ?_
   simp -implicitDefEqProofs only [↓slp, slb, ↓reduceIte, reduceCtorEq, jA, jB, jD, jF, tfPsR4, f0, f4, hnb, hA, isQ1_all, qst_gx1, List.dropLast_cons_cons, List.dropLast_singleton, List.getLast_cons_cons, List.getLast_singleton]
   refine callM (qctor_any hL a _ xA s1.nx b1.ok d) ?_
   rintro v m' ⟨rfl, rfl⟩
   generalize rCtor L s1.nx = c at *
   refine ⟨isQ1_of ht.boxes, ?_⟩
   have hfree := hon.free
   have q1 : ns.length + 1 ≤ maxLen := by unfold maxLen; omega
   have q2 : (ns.length + 1) * 16 ≤ 140737488355328 := by omega
   have q3 := strs_one1 ns
   refine wS (And.intro tfPsR4 (And.intro f4 (And.intro hnb hA))) ?_
   (repeat ((apply And.intro; (focus (trivial)))))
   have ht1 := ht.use (s := 1) hon
   have hok1 := Mine.other (o := on) (s := 1) hok hne
   have hon1 := Mine.new ht on 1
   have hne1 : ∀ t, Own.tok mm.nt = .tok t → ok ≠ .tok t := hok.ne_new
   refine ⟨isQ1_of ht1.boxes, ?_⟩
   have hnb1 := ht1.nb
   have hA1 : a < ((on.use mm).fresh 1).nb := by omega
   generalize (on.use mm).fresh 1 = m1 at *
   generalize Own.tok mm.nt = o1 at *
   clear ht hon hok hne hnb hAm
   (repeat revert X); refine wE f0 ?_; repeat intro X hX
   refine callM (qwant_any hL a _ xA _ b2.ok d wArrow) ?_
   rintro v m' rfl
   refine wS aEQ_t ?_
   (repeat revert X); refine wE aEQ_t ?_; repeat intro X hX
   refine aDrwE (isQ1 L a m [.v (.int .u8 13), .v (.int .u8 0), .v (.int .i32 0), .v (.string x.1), .sl o1 (ns.map pS ++ [.v (.string c.1)]), .sl ok (ks.map Ex.pv), .v (.int .i64 t.line), .v (.int .i64 t.col)] d) (hne := List.cons_ne_nil _ _) rfl (by kernel_rfl) (by kernel_rfl) (isQ1_of ht1.boxes) ?_
   simp -implicitDefEqProofs only [↓slp, slb, ↓reduceIte, reduceCtorEq, jA, jB, jD, jF, tfPsR4, f0, f4, hnb1, hA, isQ1_all, qst_gx1, List.dropLast_cons_cons, List.dropLast_singleton, List.getLast_cons_cons, List.getLast_singleton]
   refine callM (hce _ xA _ b3.ok d hd (by omega)) ?_
   rintro v m' ⟨rfl, rfl⟩
   generalize rExpr L n d (c.2.want L wArrow) = y at *
   refine ⟨isQ1_of ht1.boxes, ?_⟩
   have hfree := hok1.free
   have q1 : ks.length + 1 ≤ maxLen := by unfold maxLen; omega
   have q2 : (ks.length + 1) * 88 ≤ 140737488355328 := by omega
   have q3 := exs_one8 ks
   refine wS (And.intro tfPsR4 (And.intro f4 (And.intro hnb1 hA))) ?_
   (repeat ((apply And.intro; (focus (trivial)))))
   have ht2 := ht1.use (s := 8) hok1
   have hon2 := Mine.other (o := ok) (s := 8) hon1 (fun t h1 h2 => hne1 t h2 h1)
   have hok2 := Mine.new ht1 ok 8
   have hne2 : ∀ t, o1 = .tok t → Own.tok m1.nt ≠ .tok t := hon1.new_ne
   refine ⟨isQ1_of ht2.boxes, ?_⟩
   have hnb2 := ht2.nb
   have hA2 : a < ((ok.use m1).fresh 8).nb := by omega
   generalize (ok.use m1).fresh 8 = m2' at *
   generalize Own.tok m1.nt = o2 at *
   (repeat revert X); refine wE f0 ?_; repeat intro X hX
   refine callM (qwant_any hL a _ xA _ b4.ok d wShut) ?_
   rintro v m' rfl
   refine wS aEQ_t ?_
   (repeat revert X); refine wE (And.intro tfPsR4 (And.intro f0 (And.intro f2 (And.intro f4 (And.intro hnb2 (And.intro hA2 hA)))))) ?_; repeat intro X hX
   refine hW n _ _ (by omega) ?_
   rw [hI]
   exact ⟨ns ++ [c.1], ks ++ [y.1], _, o1, o2, m2', b5.ok, by omega, by omega, by simp; omega, by simp [hnl], by rw [hr, hun2], f0, f2, f4, by rw [List.map_append, List.map_append]; rfl, ht2, hon2, hok2, hne2⟩
end
theorem qexC {L : List Tk} (hL : TksOk L) : ∀ f, ∀ g, g ≤ f → QExC L g
 | 0, g, hg => by
  obtain rfl : g = 0 := by omega
  exact ⟨fun _ _ _ _ _ _ _ h => by omega, fun _ _ _ _ _ _ _ _ h => by omega, fun _ _ _ _ _ _ _ _ h => by omega, fun _ _ _ _ _ _ _ h => by omega, fun _ _ _ _ _ _ _ _ h => by omega⟩
 | f + 1, g, hg => by
  have IH := qexC hL f
  by_cases h : g ≤ f
  ·exact IH g h
  ·obtain rfl : g = f + 1 := by omega
   exact ⟨fun a m hA s hs d hd hf => qexpr_step hL IH a m hA s hs d hd hf, fun a m hA s hs d hd t hf => qfull_step hL IH a m hA s hs d hd t hf, fun a m hA s hs d hd l hf => qbinary_step hL IH a m hA s hs d hd l hf, fun a m hA s hs d hd hf => qunary_step hL IH a m hA s hs d hd hf, fun a m hA s hs k0 d hd hf => qatom_step hL IH a m hA s hs k0 d hd hf⟩
section
variable {L : List Tk} (hL : TksOk L) (a : Nat) (m : M) (hA : a < m.nb) (s : PS) (hs : s.ok L) (d : Int)
include hL hA hs
theorem qeX_any (hd : 0 ≤ d ∧ d ≤ 64) : ACalls Tryz.prog 19 [.bp a 0] (qst L a m s d) (fun v m' => v = (eX L d s).1.pv ∧ m' = qst L a m (eX L d s).2 d) := by
 have := mu_fx (L := L) (s := s)
 exact (qexC hL (fx L) _ (Nat.le_refl _)).expr a m hA s hs d hd (by unfold fx; omega)
theorem qunX_any (hd : (0 ≤ d ∧ d ≤ 65) ∧ (s.k = 0 → d ≤ 64)) : ACalls Tryz.prog 94 [.bp a 0] (qst L a m s d) (fun v m' => v = (rUnary L (fx L) d s).1.pv ∧ m' = qst L a m (rUnary L (fx L) d s).2 d) := by
 have := mu_fx (L := L) (s := s)
 exact (qexC hL (fx L) _ (Nat.le_refl _)).unary a m hA s hs d hd (by unfold fx; omega)
end
end Go.Proofs.YtohgdopfjkjppaaGreatDoor
