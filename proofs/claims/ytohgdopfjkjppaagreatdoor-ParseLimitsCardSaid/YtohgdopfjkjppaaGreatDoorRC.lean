/-
 Texts that belong together: PsR5, PsR6, PsR7.
-/
-- halved
import Derived.Test.YtohgdopfjkjppaaGreatDoorAbMac
import Derived.Test.YtohgdopfjkjppaaGreatDoorPsR4
set_option linter.unusedSectionVars false
set_option linter.unusedVariables false
set_option linter.unusedSimpArgs false
namespace Go.Proofs.YtohgdopfjkjppaaGreatDoor
open Nat renaming reduceEqDiff → jA, reduceAdd → jB, reduceMul → jC, reduceLT → jD, reduceLeDiff → jE, reduceBEq → jF, reduceBNe → jG
open Int renaming reduceLE → jH, reduceLT → jI, reduceToNat → jJ, reduceEq → jK
open Go
set_option maxRecDepth 20000
set_option linter.defProp false
def tfPsR5 := tfPsR1

theorem ons_one2 (l : List On) : ∀ x ∈ l.map On.pv, x.cells.length = 2 := fun x hx => by
 obtain ⟨a, _, rfl⟩ := List.mem_map.1 hx; rfl
set_option maxHeartbeats 16000000 in
theorem qvar_any {L : List Tk} (hL : TksOk L) (a : Nat) (m : M) (hA : a < m.nb) (s : PS) (hs : s.ok L) (d : Int) (hd : 0 ≤ d ∧ d ≤ 64) : ACalls Tryz.prog 101 [.bp a 0] (qst L a m s d) (fun v m' => v = (rVar L d s).1.pv ∧ m' = qst L a m (rVar L d s).2 d) := by
 have hsk : ∀ (s : PS) w, s.skp L w = if s.is L w then s.nx else s := fun _ _ => rfl
 have a1 : Adv L s (s.skp L wLast) := skp_adv hL hs wLast
 have a2 := name_adv hL a1.ok (kd := 2) (by decide)
 have a3 := want_adv hL a2.ok wColon
 have a4 := typ_adv hL a3.ok
 obtain ⟨b, hb⟩ : ∃ b, s.is L wLast = b := ⟨_, rfl⟩
 obtain ⟨t, ht⟩ : ∃ t, (s.skp L wLast).tk L = t := ⟨_, rfl⟩
 obtain ⟨nm, hnm⟩ : ∃ n, rName L 2 (s.skp L wLast) = n := ⟨_, rfl⟩
 have hun : rVar L d s = (if b then (⟨nm.1, (rTyp L (nm.2.want L wColon)).1, (rCks L L.length [] (rTyp L (nm.2.want L wColon)).2).1, true, (rFirst L d (rCks L L.length [] (rTyp L (nm.2.want L wColon)).2).2).1, t.line, t.col⟩, (rFirst L d (rCks L L.length [] (rTyp L (nm.2.want L wColon)).2).2).2) else (⟨nm.1, (rTyp L (nm.2.want L wColon)).1, (rCks L L.length [] (rTyp L (nm.2.want L wColon)).2).1, false, z0, t.line, t.col⟩, (rCks L L.length [] (rTyp L (nm.2.want L wColon)).2).2)) := by rw [← hb, ← ht, ← hnm]; rfl
 rw [hnm] at a2 a3 a4
 refine eN [2, 3] Tryz.func101 ?_
 (repeat revert X); refine wE (And.intro tfPsR5 hA) ?_; repeat intro X hX
 refine callM (qskip_any hL a _ xA s hs d wLast) ?_
 rintro v m' ⟨rfl, rfl⟩
 rw [hb]
 refine wS (And.intro tfPsR5 (And.intro hA @pB.eq_1)) ?_
 (repeat revert X); refine wE aEQ_t ?_; repeat intro X hX
 refine callM (qtok_any hL a _ xA _ a1.ok d) ?_
 rintro v m' ⟨rfl, rfl⟩
 rw [ht]
 refine wS (And.intro tfPsR5 hA) ?_
 (repeat revert X); refine wE aEQ_t ?_; repeat intro X hX
 refine callM (qname_any hL a _ xA _ a1.ok d 2) ?_
 rintro v m' ⟨rfl, rfl⟩
 rw [hnm]
 refine wS (And.intro tfPsR5 hA) ?_
 (repeat revert X); refine wE aEQ_t ?_; repeat intro X hX
 refine callM (qwant_any hL a _ xA _ a2.ok d wColon) ?_
 rintro v m' rfl
 refine wS aEQ_t ?_
 (repeat revert X); refine wE aEQ_t ?_; repeat intro X hX
 refine callM (qskip_any hL a _ xA _ a3.ok d wBool) ?_
 rintro v m' ⟨rfl, rfl⟩
 rw [hsk]
 clear ht hnm a1
 generalize hs3 : nm.2.want L wColon = s3 at *
 rename_i X0 hX0
 have join : ∀ (g : F) (y : Ty) (s4 : PS), rTyp L s3 = (y, s4) → g 0 = .bp a 0 → g 2 = .bp m.nb 0 → g 3 = .bp (m.nb + 1) 0 → X0 g (qst L a (m.ext [some [.v (.string ⟨#[]⟩), .v (.int .u8 0), .v (.string ⟨#[]⟩), .sl .full [], .v (.bool false), .v (.int .u8 0), .v (.int .u8 0), .v (.int .i32 0), .v (.string ⟨#[]⟩), .sl .full [], .sl .full [], .v (.int .i64 0), .v (.int .i64 0), .v (.int .i64 0), .v (.int .i64 0)], some [.v (.string nm.1), .v (.int .u8 y.kind), .v (.string y.name), .sl .full ([]), .v (.bool b), .v (.int .u8 0), .v (.int .u8 0), .v (.int .i32 0), .v (.string ⟨#[]⟩), .sl .full [], .sl .full [], .v (.int .i64 0), .v (.int .i64 0), .v (.int .i64 t.line), .v (.int .i64 t.col)]]) s4 d) := by
  intro g y s4 hy g0 g2 g3
  refine hX0 _ _ ?_
  clear hX X hX0 X0
  rw [hy] at hun a4
  clear hy
  obtain ⟨I, hI⟩ : ∃ I : Nat → F → M → Prop, ∀ n g m', I n g m' = (∃ (l : List On) (s5 : PS) (o : Own) (mm : M), s5.ok L ∧ L.length - s5.i ≤ n ∧ l.length + n ≤ L.length ∧ rCks L L.length [] s4 = rCks L n l s5 ∧ g 0 = .bp a 0 ∧ g 2 = .bp m.nb 0 ∧ g 3 = .bp (m.nb + 1) 0 ∧ m' = qst L a (mm.ext [some [.v (.string ⟨#[]⟩), .v (.int .u8 0), .v (.string ⟨#[]⟩), .sl .full [], .v (.bool false), .v (.int .u8 0), .v (.int .u8 0), .v (.int .i32 0), .v (.string ⟨#[]⟩), .sl .full [], .sl .full [], .v (.int .i64 0), .v (.int .i64 0), .v (.int .i64 0), .v (.int .i64 0)], some [.v (.string nm.1), .v (.int .u8 y.kind), .v (.string y.name), .sl o (l.map On.pv), .v (.bool b), .v (.int .u8 0), .v (.int .u8 0), .v (.int .i32 0), .v (.string ⟨#[]⟩), .sl .full [], .sl .full [], .v (.int .i64 0), .v (.int .i64 0), .v (.int .i64 t.line), .v (.int .i64 t.col)]]) s5 d ∧ Toks m mm ∧ Mine m mm o 2) := ⟨_, fun _ _ _ => rfl⟩
  refine aLoopN I L.length ?_ ?_
  ·rw [hI]; exact ⟨[], s4, .full, m, a4.ok, by omega, by simp, rfl, g0, g2, g3, rfl, .refl m, .full⟩
  intro W n g m' hrel hW
  rw [hI] at hrel
  obtain ⟨l, s5, o, mm, hs5, hn, hln, hr, f0, f2, f3, rfl, htk, ho⟩ := hrel
  have hlt := hs5.lt
  obtain ⟨n, rfl⟩ : ∃ k, n = k + 1 := ⟨n - 1, by omega⟩
  have hnb := htk.nb
  have hAm : a < mm.nb := by omega
  have hun2 : rCks L (n + 1) l s5 = if s5.is L wWhen then rCks L n (l ++ [(rOn L s5.nx).1]) (rOn L s5.nx).2 else (l, s5) := rfl
  (repeat revert X); refine wE f0 ?_; repeat intro X hX
  refine callM (qskip_any hL a _ xA s5 hs5 d wWhen) ?_
  rintro v m' ⟨rfl, rfl⟩
  rw [hsk]
  cases h6 : s5.is L wWhen with
  | true =>
   have b1 := is_adv hL hs5 h6
   have b2 := on_adv hL b1.ok
   have hle := b2.le
   have hll := hL.le
   rw [h6, if_pos rfl] at hun2
   rw [if_pos rfl]
   refine wS @pB.eq_1 ?_
   (repeat revert X); refine wE aEQ_t ?_; repeat intro X hX
   refine aDrwE (isQ1 L a m [.v (.string nm.1), .v (.int .u8 y.kind), .v (.string y.name), .sl o (l.map On.pv), .v (.bool b), .v (.int .u8 0), .v (.int .u8 0), .v (.int .i32 0), .v (.string ⟨#[]⟩), .sl .full [], .sl .full [], .v (.int .i64 0), .v (.int .i64 0), .v (.int .i64 t.line), .v (.int .i64 t.col)] d) (hne := List.cons_ne_nil _ _) rfl (by kernel_rfl) (by kernel_rfl) (isQ1_of htk.boxes) ?_
   simp -implicitDefEqProofs only [↓slp, slb, ↓reduceIte, reduceCtorEq, jA, jB, jD, jF, tfPsR5, f0, f3, hnb, hA, isQ1_all, qst_gx1, List.dropLast_cons_cons, List.dropLast_singleton, List.getLast_cons_cons, List.getLast_singleton]
   refine callM (qon_any hL a _ xA s5.nx b1.ok d) ?_
   rintro v m' ⟨rfl, rfl⟩
   generalize rOn L s5.nx = c at *
   refine ⟨isQ1_of htk.boxes, ?_⟩
   have hfree := ho.free
   have q1 : l.length + 1 ≤ maxLen := by unfold maxLen; omega
   have q2 : (l.length + 1) * 32 ≤ 140737488355328 := by omega
   have q3 := ons_one2 l
   refine wS (And.intro tfPsR5 (And.intro f3 (And.intro hnb hA))) ?_
   (repeat ((apply And.intro; (focus (trivial)))))
   have ht1 := htk.use (s := 2) ho
   have ho1 := Mine.new htk o 2
   refine ⟨isQ1_of ht1.boxes, ?_⟩
   have hnb1 := ht1.nb
   have hA1 : a < ((o.use mm).fresh 2).nb := by omega
   generalize (o.use mm).fresh 2 = m1 at *
   generalize Own.tok mm.nt = o1 at *
   clear htk ho hnb hAm
   (repeat revert X); refine wE (And.intro tfPsR5 (And.intro f0 (And.intro f2 (And.intro f3 (And.intro hnb1 (And.intro hA1 hA)))))) ?_; repeat intro X hX
   refine hW n _ _ (by omega) ?_
   rw [hI]
   exact ⟨l ++ [c.1], c.2, o1, m1, b2.ok, by have : s5.nx.i = s5.i + 1 := rfl; omega, by simp; omega, by rw [hr, hun2], f0, f2, f3, by rw [List.map_append]; rfl, ht1, ho1⟩
  | false =>
   rw [h6, if_neg (by simp)] at hun2
   rw [if_neg (by simp)]
   rw [hr, hun2] at hun
   cases b with
   | false =>
    rw [if_neg (by simp)] at hun
    refine wS @pB.eq_1 ?_
    (repeat revert X); refine wE (And.intro tfPsR5 (And.intro f2 (And.intro f3 (And.intro hnb hA)))) ?_; repeat intro X hX
    refine wQ Tryz.results101 (And.intro tfPsR5 (And.intro f2 (And.intro hnb hA))) ?_
    exact leave_qst hA htk rfl ⟨by rw [hun]; rfl, by rw [hun]⟩
   | true =>
    rw [if_pos rfl] at hun
    have b1 := want_adv hL hs5 wEq
    have b2 := (un_adv hL (d := d) b1.ok).1
    have hfi : rFirst L d s5 = ((rUnary L (fx L) d (s5.want L wEq)).1, if (rUnary L (fx L) d (s5.want L wEq)).2.k == 0 && !isCst (rUnary L (fx L) d (s5.want L wEq)).1 then (rUnary L (fx L) d (s5.want L wEq)).2.fail L 2 (rUnary L (fx L) d (s5.want L wEq)).1.line (rUnary L (fx L) d (s5.want L wEq)).1.col else (rUnary L (fx L) d (s5.want L wEq)).2) := rfl
    rw [hfi] at hun
    clear hfi
    refine wS @pB.eq_1 ?_
    (repeat revert X); refine wE (And.intro tfPsR5 (And.intro f0 (And.intro f3 (And.intro hnb hA)))) ?_; repeat intro X hX
    refine callM (qwant_any hL a _ xA s5 hs5 d wEq) ?_
    rintro v m' rfl
    refine wS aEQ_t ?_
    (repeat revert X); refine wE f0 ?_; repeat intro X hX
    refine callM (qunX_any hL a _ xA _ b1.ok d ⟨⟨hd.1, by omega⟩, fun _ => hd.2⟩) ?_
    rintro v m' ⟨rfl, rfl⟩
    generalize rUnary L (fx L) d (s5.want L wEq) = e at *
    obtain ⟨c0, g0⟩ : ∃ b, (e.2.k == 0) = b := ⟨_, rfl⟩
    obtain ⟨c1, g1⟩ : ∃ b, (e.1.kind == 1) = b := ⟨_, rfl⟩
    obtain ⟨c2, g2⟩ : ∃ b, (e.1.kind == 2) = b := ⟨_, rfl⟩
    obtain ⟨c3, g3⟩ : ∃ b, (e.1.kind == 3) = b := ⟨_, rfl⟩
    have hcst : isCst e.1 = (c1 || c2 || c3) := by unfold isCst; rw [g1, g2, g3]
    rw [hcst, g0] at hun
    have g1n : (e.1.kind != 1) = !c1 := by rw [← g1]; rfl
    have g2n : (e.1.kind != 2) = !c2 := by rw [← g2]; rfl
    have g3n : (e.1.kind != 3) = !c3 := by rw [← g3]; rfl
    refine wS tfPsR5 ?_
    rw [Ex.pv_eq]
    have fin : (c0 = false) ∨ (c0 = true ∧ c1 = true) ∨ (c0 = true ∧ c1 = false ∧ c2 = true) ∨ (c0 = true ∧ c1 = false ∧ c2 = false ∧ c3 = true) ∨ (c0 = true ∧ c1 = false ∧ c2 = false ∧ c3 = false) := by cases c0 <;> cases c1 <;> cases c2 <;> cases c3 <;> simp
    have hbE : e.1.pv = .ag [.v (.int .u8 e.1.kind), .v (.int .u8 e.1.op), .v (.int .i32 e.1.n), .v (.string e.1.name), .sl .no (e.1.names.map pS), .sl .no (e.1.kids.map Ex.pv), .v (.int .i64 e.1.line), .v (.int .i64 e.1.col)] := Ex.pv_eq e.1
    rcases fin with rfl | ⟨rfl, rfl⟩ | ⟨rfl, rfl, rfl⟩ | ⟨rfl, rfl, rfl, rfl⟩ | ⟨rfl, rfl, rfl, rfl⟩
    iterate 4
     ·simp only [Bool.false_and, Bool.true_and, Bool.true_or, Bool.or_true, Bool.false_or, Bool.not_true, Bool.not_false, Bool.false_eq_true, if_false] at hun
      (repeat revert X); refine wE (And.intro tfPsR5 (And.intro f0 (And.intro f2 (And.intro f3 (And.intro hnb (And.intro hA (And.intro g0 (And.intro g1 (And.intro g2 g3))))))))) ?_; repeat intro X hX
      refine wQ Tryz.results101 (And.intro tfPsR5 (And.intro f2 (And.intro f3 (And.intro hnb hA)))) ?_
      exact leave_qst hA htk rfl ⟨by rw [hun]; rfl, by rw [hun]⟩
    ·simp only [Bool.and_self, Bool.or_self, Bool.not_false, if_true] at hun
     (repeat revert X); refine wE (And.intro tfPsR5 (And.intro f0 (And.intro hnb (And.intro hA (And.intro g0 (And.intro g1 (And.intro g2 g3))))))) ?_; repeat intro X hX
     refine callM (qfail_any hL a _ xA _ b2.ok d 2 e.1.line e.1.col) ?_
     rintro v m' rfl
     refine wS tfPsR5 ?_
     (repeat revert X); refine wE (And.intro tfPsR5 (And.intro f2 (And.intro f3 (And.intro hnb hA)))) ?_; repeat intro X hX
     refine wQ Tryz.results101 (And.intro tfPsR5 (And.intro f2 (And.intro hnb hA))) ?_
     exact leave_qst hA htk rfl ⟨by rw [hun]; rfl, by rw [hun]⟩
 cases h7 : s3.is L wBool with
 | true =>
  have hy : rTyp L s3 = (⟨1, ⟨#[]⟩⟩, s3.nx) := by unfold rTyp; rw [if_pos h7]
  rw [if_pos rfl]
  refine wS @pB.eq_1 ?_
  (repeat revert X); refine wE (And.intro tfPsR5 hA) ?_; repeat intro X hX
  exact join _ ⟨1, ⟨#[]⟩⟩ _ hy rfl rfl rfl
 | false =>
 rw [if_neg (by simp)]
 refine wS @pB.eq_1 ?_
 (repeat revert X); refine wE aEQ_t ?_; repeat intro X hX
 refine callM (qskip_any hL a _ xA _ a3.ok d wInt) ?_
 rintro v m' ⟨rfl, rfl⟩
 rw [hsk]
 cases h8 : s3.is L wInt with
 | true =>
  have hy : rTyp L s3 = (⟨2, ⟨#[]⟩⟩, s3.nx) := by unfold rTyp; rw [if_neg (by simp [h7]), if_pos h8]
  rw [if_pos rfl]
  refine wS @pB.eq_1 ?_
  (repeat revert X); refine wE (And.intro tfPsR5 hA) ?_; repeat intro X hX
  exact join _ ⟨2, ⟨#[]⟩⟩ _ hy rfl rfl rfl
 | false =>
 have hy : rTyp L s3 = (⟨3, (rName L 2 s3).1⟩, (rName L 2 s3).2) := by unfold rTyp; rw [if_neg (by simp [h7]), if_neg (by simp [h8])]
 rw [if_neg (by simp)]
 refine wS @pB.eq_1 ?_
 (repeat revert X); refine wE (And.intro tfPsR5 hA) ?_; repeat intro X hX
 refine callM (qname_any hL a _ xA _ a3.ok d 2) ?_
 rintro v m' ⟨rfl, rfl⟩
 refine wS (And.intro tfPsR5 hA) ?_
 (repeat revert X); refine wE (And.intro tfPsR5 (And.intro hA @pB.eq_1)) ?_; repeat intro X hX
 exact join _ ⟨3, (rName L 2 s3).1⟩ _ hy rfl rfl rfl

def tfPsR6 := And.intro @tfA (And.intro @Ex.settle_pv (And.intro @Ex.pure_pv (And.intro @Ex.cells_pv (And.intro @Ex.cs.eq_1 (And.intro @On.pv.eq_1 (And.intro @Ty.pv.eq_1 (And.intro @Va.settle_pv (And.intro @Va.pure_pv (And.intro @Va.cells_pv (And.intro @Va.cs.eq_1 (And.intro @Tk.settle_pv (And.intro @Tk.pure_pv (And.intro @Tk.cells_pv (And.intro @Tk.pv.eq_1 (And.intro @Tk.cs.eq_1 (And.intro @Tr.settle_pv (And.intro @Tr.pure_pv (And.intro @Tr.cells_pv (And.intro @Tr.cs.eq_1 (And.intro @qst_nb (And.intro @qst_nt (And.intro @qst_fresh (And.intro @qst_use (And.intro @qst_free (And.intro @qst_alive (And.intro @qst_a (And.intro @qst_upda (And.intro @qst_ext (And.intro @qst_ext2 (And.intro @qst_ea (And.intro @qst_own (And.intro @qst_own0 (And.intro @qst_ou @qst_ou0)))))))))))))))))))))))))))))))))

theorem vas_one15 (l : List Va) : ∀ x ∈ l.map Va.pv, x.cells.length = 15 := fun x hx => by
 obtain ⟨a, _, rfl⟩ := List.mem_map.1 hx; rfl
theorem trs_one12 (l : List Tr) : ∀ x ∈ l.map Tr.pv, x.cells.length = 12 := fun x hx => by
 obtain ⟨a, _, rfl⟩ := List.mem_map.1 hx; rfl
theorem mu0 {L : List Tk} {s : PS} (h : s.ok L) (h0 : s.k = 0) : 16 ≤ mu L s := by have := h.lt; unfold mu; rw [if_pos h0]; omega
theorem name_mu {L : List Tk} (hL : TksOk L) {s : PS} (h : s.ok L) (h0 : s.k = 0) {kd : Int} (hkd : kd ≠ 0) : mu L (rName L kd s).2 + 16 ≤ mu L s :=
 mu_lt (name_adv hL h hkd) h h0 fun hk => by have := name_pr (L := L) hk; omega
theorem len_posb {α : Type} (l : List α) : decide ((l.length : Int) > 0) = !(l.length == 0) := by
 cases l with
 | nil => rfl
 | cons x r => simp; try omega
section
variable {L : List Tk} (hL : TksOk L) (a : Nat) (m : M) (hA : a < m.nb) (s : PS) (hs : s.ok L) (d : Int) (hd : 0 ≤ d ∧ d ≤ 64)
include hL hA hs hd
set_option maxHeartbeats 8000000 in
theorem qparams_any : ACalls Tryz.prog 79 [.bp a 0] (qst L a m s d) (fun v m' => v = .sl .no ((rParams L d s).1.map Va.pv) ∧ m' = qst L a m (rParams L d s).2 d) := by
 have hsk : ∀ (s : PS) w, s.skp L w = if s.is L w then s.nx else s := fun _ _ => rfl
 refine eN [3] Tryz.func79 ?_
 (repeat revert X); refine wE tfPsR6 ?_; repeat intro X hX
 refine callM (qis_any hL a _ xA s hs d wShut) ?_
 rintro v m' ⟨rfl, rfl⟩
 cases h0 : s.is L wShut with
 | true =>
  have hun : rParams L d s = ([], s) := by unfold rParams; rw [if_pos h0]
  refine wS @pB.eq_1 ?_
  (repeat revert X); refine wE aEQ_t ?_; repeat intro X hX
  refine wQ Tryz.results79 aEQ_t ?_
  exact leave_qst0 hA (.refl m) rfl ⟨by rw [hun]; rfl, by rw [hun]⟩
 | false =>
 have hun : rParams L d s = rParL L (L.length + 1) d [] s := by unfold rParams; rw [if_neg (by simp [h0])]
 have hmx := mu_fx (L := L) (s := s)
 have hll := hL.le
 refine wS @pB.eq_1 ?_
 (repeat revert X); refine wE aEQ_t ?_; repeat intro X hX
 obtain ⟨I, hI⟩ : ∃ I : Nat → F → M → Prop, ∀ n g m', I n g m' = (∃ (l : List Va) (s1 : PS) (o : Own) (mm : M), s1.ok L ∧ mu L s1 + 16 ≤ 16 * n ∧ l.length + n ≤ L.length + 1 ∧ rParams L d s = rParL L n d l s1 ∧ g 0 = .bp a 0 ∧ g 3 = .sl o (l.map Va.pv) ∧ m' = qst L a mm s1 d ∧ Toks m mm ∧ Mine m mm o 15) := ⟨_, fun _ _ _ => rfl⟩
 refine aLoopN I (L.length + 1) ?_ ?_
 ·rw [hI]; exact ⟨[], s, .full, m, hs, by omega, by simp, hun, rfl, rfl, rfl, .refl m, .full⟩
 intro W n g m' hrel hW
 rw [hI] at hrel
 obtain ⟨l, s1, o, mm, hs1, hn, hln, hr, f0, f3, rfl, htk, ho⟩ := hrel
 obtain ⟨n, rfl⟩ : ∃ k, n = k + 1 := ⟨n - 1, by omega⟩
 have hnb := htk.nb
 have hAm : a < mm.nb := by omega
 have hun2 : rParL L (n + 1) d l s1 = if s1.k == 0 then (if (rVar L d s1).2.is L wSemi then rParL L n d (l ++ [(rVar L d s1).1]) (rVar L d s1).2.nx else (l ++ [(rVar L d s1).1], (rVar L d s1).2)) else (l, s1) := rfl
 cases h1 : (s1.k == 0) with
 | false =>
  rw [h1, if_neg (by simp)] at hun2
  (repeat revert X); refine wE (And.intro tfPsR6 (And.intro f0 (And.intro f3 (And.intro hnb (And.intro hA h1))))) ?_; repeat intro X hX
  refine wQ Tryz.results79 aEQ_t ?_
  exact leave_qst0 hA htk rfl ⟨by rw [hr, hun2]; rfl, by rw [hr, hun2]⟩
 | true =>
  have k0 : s1.k = 0 := by simpa using h1
  rw [h1, if_pos rfl] at hun2
  have b1 := var_adv hL (d := d) hs1
  have hfree := ho.free
  have q1 : l.length + 1 ≤ maxLen := by unfold maxLen; omega
  have q2 : (l.length + 1) * 176 ≤ 140737488355328 := by omega
  have q3 := vas_one15 l
  have n0 := mu0 hs1 k0
  have n1 := mu_le b1
  (repeat revert X); refine wE (And.intro tfPsR6 (And.intro f0 (And.intro f3 (And.intro hnb (And.intro hA h1))))) ?_; repeat intro X hX
  refine callM (qvar_any hL a _ xA s1 hs1 d hd) ?_
  rintro v m' ⟨rfl, rfl⟩
  generalize rVar L d s1 = c at *
  refine wS tfPsR6 ?_
  (repeat (first | refine aSeq fun X hX => ?_ | refine aReg ?_; simp -implicitDefEqProofs only [↓slp, slb, ↓reduceIte, reduceCtorEq, jF, f0] | apply hX; clear hX X | apply And.intro; focus ((repeat' apply And.intro) <;> first | omega | assumption)))
  have ht1 := htk.use (s := 15) ho
  have ho1 := Mine.new htk o 15
  have hnb1 := ht1.nb
  have hA1 : a < ((o.use mm).fresh 15).nb := by omega
  generalize (o.use mm).fresh 15 = m1 at *
  generalize Own.tok mm.nt = o1 at *
  clear htk ho hnb hAm
  refine callM (qskip_any hL a _ (by first | assumption | (rw [ext_nb]; omega)) _ b1.ok d wSemi) ?_
  rintro v m' ⟨rfl, rfl⟩
  rw [hsk]
  cases h2 : c.2.is L wSemi with
  | true =>
   rw [h2, if_pos rfl] at hun2
   rw [if_pos rfl]
   have b2 := is_adv hL b1.ok h2
   have n2 := mu_nx hL b1.ok (is_of h2).1 (is_of h2).2.1
   refine wS @pB.eq_1 ?_
   (repeat revert X); refine wE aEQ_t ?_; repeat intro X hX
   refine hW n _ _ (by omega) ?_
   rw [hI]
   exact ⟨l ++ [c.1], c.2.nx, o1, m1, b2.ok, by omega, by simp; omega, by rw [hr, hun2], f0, by rw [List.map_append]; rfl, rfl, ht1, ho1⟩
  | false =>
   rw [h2, if_neg (by simp)] at hun2
   rw [if_neg (by simp)]
   refine wS @pB.eq_1 ?_
   (repeat revert X); refine wE aEQ_t ?_; repeat intro X hX
   refine wQ Tryz.results79 aEQ_t ?_
   exact leave_qst0 hA ht1 rfl ⟨by rw [hr, hun2, List.map_append]; rfl, by rw [hr, hun2]⟩
omit hd in
set_option maxHeartbeats 8000000 in
theorem qlocals_any (hd : (0 ≤ d ∧ d ≤ 65) ∧ (s.k = 0 → d ≤ 64)) : ACalls Tryz.prog 80 [.bp a 0] (qst L a m s d) (fun v m' => v = .sl .no ((rLocals L d s).1.map Va.pv) ∧ m' = qst L a m (rLocals L d s).2 d) := by
 have hsk : ∀ (s : PS) w, s.skp L w = if s.is L w then s.nx else s := fun _ _ => rfl
 refine eN [3] Tryz.func80 ?_
 (repeat revert X); refine wE tfPsR6 ?_; repeat intro X hX
 refine callM (qskip_any hL a _ xA s hs d wVar) ?_
 rintro v m' ⟨rfl, rfl⟩
 rw [hsk]
 cases h0 : s.is L wVar with
 | false =>
  have hun : rLocals L d s = ([], s) := by unfold rLocals; rw [if_neg (by simp [h0])]
  rw [if_neg (by simp)]
  refine wS @pB.eq_1 ?_
  (repeat revert X); refine wE aEQ_t ?_; repeat intro X hX
  refine wQ Tryz.results80 aEQ_t ?_
  exact leave_qst0 hA (.refl m) rfl ⟨by rw [hun]; rfl, by rw [hun]⟩
 | true =>
 have hun : rLocals L d s = rLocL L (L.length + 1) d [] s.nx := by unfold rLocals; rw [if_pos h0]
 have hd : 0 ≤ d ∧ d ≤ 64 := ⟨hd.1.1, hd.2 (is_of h0).1⟩
 have a1 := is_adv hL hs h0
 have hmx := mu_fx (L := L) (s := s.nx)
 have hll := hL.le
 rw [if_pos rfl]
 refine wS @pB.eq_1 ?_
 (repeat revert X); refine wE aEQ_t ?_; repeat intro X hX
 obtain ⟨I, hI⟩ : ∃ I : Nat → F → M → Prop, ∀ n g m', I n g m' = (∃ (l : List Va) (s1 : PS) (o : Own) (mm : M), s1.ok L ∧ mu L s1 + 16 ≤ 16 * n ∧ l.length + n ≤ L.length + 1 ∧ rLocals L d s = rLocL L n d l s1 ∧ g 0 = .bp a 0 ∧ g 3 = .sl o (l.map Va.pv) ∧ m' = qst L a mm s1 d ∧ Toks m mm ∧ Mine m mm o 15) := ⟨_, fun _ _ _ => rfl⟩
 refine aLoopN I (L.length + 1) ?_ ?_
 ·rw [hI]; exact ⟨[], s.nx, .full, m, a1.ok, by omega, by simp, hun, rfl, rfl, rfl, .refl m, .full⟩
 intro W n g m' hrel hW
 rw [hI] at hrel
 obtain ⟨l, s1, o, mm, hs1, hn, hln, hr, f0, f3, rfl, htk, ho⟩ := hrel
 obtain ⟨n, rfl⟩ : ∃ k, n = k + 1 := ⟨n - 1, by omega⟩
 have hnb := htk.nb
 have hAm : a < mm.nb := by omega
 have hun2 : rLocL L (n + 1) d l s1 = if s1.k == 0 then (if !((((rVar L d s1).2.want L wSemi).tk L).kind == 2) && !((rVar L d s1).2.want L wSemi).is L wLast then (l ++ [(rVar L d s1).1], (rVar L d s1).2.want L wSemi) else rLocL L n d (l ++ [(rVar L d s1).1]) ((rVar L d s1).2.want L wSemi)) else (l, s1) := rfl
 cases h1 : (s1.k == 0) with
 | false =>
  rw [h1, if_neg (by simp)] at hun2
  (repeat revert X); refine wE (And.intro tfPsR6 (And.intro f0 (And.intro f3 (And.intro hnb (And.intro hA h1))))) ?_; repeat intro X hX
  refine wQ Tryz.results80 aEQ_t ?_
  exact leave_qst0 hA htk rfl ⟨by rw [hr, hun2]; rfl, by rw [hr, hun2]⟩
 | true =>
  have k0 : s1.k = 0 := by simpa using h1
  rw [h1, if_pos rfl] at hun2
  have b1 := var_adv hL (d := d) hs1
  have hfree := ho.free
  have q1 : l.length + 1 ≤ maxLen := by unfold maxLen; omega
  have q2 : (l.length + 1) * 176 ≤ 140737488355328 := by omega
  have q3 := vas_one15 l
  have n0 := mu0 hs1 k0
  have n1 := mu_le b1
  have b2 := want_adv hL b1.ok wSemi
  have n2 := want_mu hL b1.ok wSemi
  (repeat revert X); refine wE (And.intro tfPsR6 (And.intro f0 (And.intro f3 (And.intro hnb (And.intro hA h1))))) ?_; repeat intro X hX
  refine callM (qvar_any hL a _ xA s1 hs1 d hd) ?_
  rintro v m' ⟨rfl, rfl⟩
  generalize rVar L d s1 = c at *
  refine wS tfPsR6 ?_
  (repeat (first | refine aSeq fun X hX => ?_ | refine aReg ?_; simp -implicitDefEqProofs only [↓slp, slb, ↓reduceIte, reduceCtorEq, jF, f0] | apply hX; clear hX X | apply And.intro; focus ((repeat' apply And.intro) <;> first | omega | assumption)))
  have ht1 := htk.use (s := 15) ho
  have ho1 := Mine.new htk o 15
  have hnb1 := ht1.nb
  have hA1 : a < ((o.use mm).fresh 15).nb := by omega
  generalize (o.use mm).fresh 15 = m1 at *
  generalize Own.tok mm.nt = o1 at *
  clear htk ho hnb hAm
  refine callM (qwant_any hL a _ (by first | assumption | (rw [ext_nb]; omega)) _ b1.ok d wSemi) ?_
  rintro v m' rfl
  refine wS aEQ_t ?_
  (repeat revert X); refine wE f0 ?_; repeat intro X hX
  refine callM (qtok_any hL a _ xA _ b2.ok d) ?_
  rintro v m' ⟨rfl, rfl⟩
  generalize c.2.want L wSemi = s2 at *
  obtain ⟨c2, g2⟩ : ∃ b, ((s2.tk L).kind == 2) = b := ⟨_, rfl⟩
  have g2n : ((s2.tk L).kind != 2) = !c2 := by rw [← g2]; rfl
  rw [g2] at hun2
  refine wS (And.intro tfPsR6 f0) ?_
  cases c2 with
  | true =>
   rw [Bool.not_true, Bool.false_and, if_neg (by simp)] at hun2
   simp only [g2, Bool.not_true]
   refine wS aEQ_t ?_
   (repeat revert X); refine wE aEQ_t ?_; repeat intro X hX
   refine hW n _ _ (by omega) ?_
   rw [hI]
   exact ⟨l ++ [c.1], s2, o1, m1, b2.ok, by omega, by simp; omega, by rw [hr, hun2], f0, by rw [List.map_append]; rfl, rfl, ht1, ho1⟩
  | false =>
   rw [Bool.not_false, Bool.true_and] at hun2
   simp only [g2, Bool.not_false]
   refine wS aEQ_t ?_
   (repeat revert X); refine wE (And.intro tfPsR6 (And.intro f0 (And.intro f3 (And.intro hnb1 (And.intro hA1 (And.intro hA (And.intro g2 g2n))))))) ?_; repeat intro X hX
   refine callM (qis_any hL a _ xA s2 b2.ok d wLast) ?_
   rintro v m' ⟨rfl, rfl⟩
   cases h3 : s2.is L wLast with
   | true =>
    rw [h3, if_neg (by simp)] at hun2
    simp only [g2, Bool.not_false]
    refine wS (And.intro tfPsR6 @pB.eq_1) ?_
    (repeat revert X); refine wE aEQ_t ?_; repeat intro X hX
    refine hW n _ _ (by omega) ?_
    rw [hI]
    exact ⟨l ++ [c.1], s2, o1, m1, b2.ok, by omega, by simp; omega, by rw [hr, hun2], f0, by rw [List.map_append]; rfl, rfl, ht1, ho1⟩
   | false =>
    rw [h3, if_pos (by rfl)] at hun2
    simp only [g2, Bool.not_false]
    refine wS (And.intro tfPsR6 @pB.eq_1) ?_
    (repeat revert X); refine wE aEQ_t ?_; repeat intro X hX
    refine wQ Tryz.results80 aEQ_t ?_
    exact leave_qst0 hA ht1 rfl ⟨by rw [hr, hun2, List.map_append]; rfl, by rw [hr, hun2]⟩
omit hd in
set_option maxHeartbeats 8000000 in
theorem qlhs_any : ACalls Tryz.prog 121 [.bp a 0] (qst L a m s d) (fun v m' => v = .sl .no ((rLhs L s).1.map pS) ∧ m' = qst L a m (rLhs L s).2 d) := by
 have hsk : ∀ (s : PS) w, s.skp L w = if s.is L w then s.nx else s := fun _ _ => rfl
 refine eN [3] Tryz.func121 ?_
 (repeat revert X); refine wE tfPsR6 ?_; repeat intro X hX
 refine callM (qskip_any hL a _ xA s hs d wOpen) ?_
 rintro v m' ⟨rfl, rfl⟩
 rw [hsk]
 cases h0 : s.is L wOpen with
 | false =>
  have hun : rLhs L s = ([(rName L 2 s).1], (rName L 2 s).2) := by unfold rLhs; rw [if_neg (by simp [h0])]
  rw [if_neg (by simp)]
  refine wS @pB.eq_1 ?_
  (repeat revert X); refine wE aEQ_t ?_; repeat intro X hX
  refine callM (qname_any hL a _ xA s hs d 2) ?_
  rintro v m' ⟨rfl, rfl⟩
  refine wS tfPsR6 ?_
  (repeat revert X); refine wE aEQ_t ?_; repeat intro X hX
  refine wQ Tryz.results121 aEQ_t ?_
  exact leave_qst0 hA (.refl m) rfl ⟨by rw [hun]; rfl, by rw [hun]⟩
 | true =>
 have hun : rLhs L s = rLhsL L (L.length + 1) [] s.nx := by unfold rLhs; rw [if_pos h0]
 have a1 := is_adv hL hs h0
 have hmx := mu_fx (L := L) (s := s.nx)
 have hll := hL.le
 rw [if_pos rfl]
 refine wS @pB.eq_1 ?_
 (repeat revert X); refine wE tfPsR6 ?_; repeat intro X hX
 obtain ⟨I, hI⟩ : ∃ I : Nat → F → M → Prop, ∀ n g m', I n g m' = (∃ (l : List Str) (s1 : PS) (o : Own) (mm : M), s1.ok L ∧ mu L s1 + 16 ≤ 16 * n ∧ l.length + n ≤ L.length + 1 ∧ rLhs L s = rLhsL L n l s1 ∧ g 0 = .bp a 0 ∧ g 3 = .sl o (l.map pS) ∧ m' = qst L a mm s1 d ∧ Toks m mm ∧ Mine m mm o 1) := ⟨_, fun _ _ _ => rfl⟩
 refine aLoopN I (L.length + 1) ?_ ?_
 ·rw [hI]; exact ⟨[], s.nx, .full, m, a1.ok, by omega, by simp, hun, rfl, rfl, rfl, .refl m, .full⟩
 intro W n g m' hrel hW
 rw [hI] at hrel
 obtain ⟨l, s1, o, mm, hs1, hn, hln, hr, f0, f3, rfl, htk, ho⟩ := hrel
 obtain ⟨n, rfl⟩ : ∃ k, n = k + 1 := ⟨n - 1, by omega⟩
 have hnb := htk.nb
 have hAm : a < mm.nb := by omega
 have hun2 : rLhsL L (n + 1) l s1 = if s1.k == 0 && !s1.is L wShut then rLhsL L n (l ++ [(rName L 2 (if l.length == 0 then s1 else s1.want L wComma)).1]) (rName L 2 (if l.length == 0 then s1 else s1.want L wComma)).2 else (l, s1.skp L wShut) := rfl
 cases h1 : (s1.k == 0) with
 | false =>
  have hisn : s1.is L wShut = false := by unfold PS.is; rw [h1]; rfl
  rw [h1, Bool.false_and, if_neg (by simp), hsk, hisn, if_neg (by simp)] at hun2
  (repeat revert X); refine wE (And.intro tfPsR6 (And.intro f0 (And.intro f3 (And.intro hnb (And.intro hA h1))))) ?_; repeat intro X hX
  refine wQ Tryz.results121 aEQ_t ?_
  exact leave_qst0 hA htk rfl ⟨by rw [hr, hun2]; rfl, by rw [hr, hun2]⟩
 | true =>
  have k0 : s1.k = 0 := by simpa using h1
  rw [h1, Bool.true_and] at hun2
  (repeat revert X); refine wE (And.intro tfPsR6 (And.intro f0 (And.intro hnb (And.intro hA h1)))) ?_; repeat intro X hX
  refine callM (qskip_any hL a _ xA _ hs1 d wShut) ?_
  rintro v m' ⟨rfl, rfl⟩
  rw [hsk]
  cases h2 : s1.is L wShut with
  | true =>
   rw [h2, if_neg (by simp), hsk, h2, if_pos rfl] at hun2
   rw [if_pos rfl]
   refine wS @pB.eq_1 ?_
   (repeat revert X); refine wE f3 ?_; repeat intro X hX
   refine wQ Tryz.results121 aEQ_t ?_
   exact leave_qst0 hA htk rfl ⟨by rw [hr, hun2]; rfl, by rw [hr, hun2]⟩
  | false =>
   rw [h2, if_pos (by rfl)] at hun2
   rw [if_neg (by simp)]
   have hfree := ho.free
   have q1 : l.length + 1 ≤ maxLen := by unfold maxLen; omega
   have q2 : (l.length + 1) * 16 ≤ 140737488355328 := by omega
   have q3 := strs_one1 l
   have n0 := mu0 hs1 k0
   obtain ⟨c2, g2⟩ : ∃ b, (l.length == 0) = b := ⟨_, rfl⟩
   have g2i : decide ((l.length : Int) > 0) = !c2 := by rw [← g2]; exact len_posb l
   rw [g2] at hun2
   refine wS @pB.eq_1 ?_
   cases c2 with
   | true =>
    rw [if_pos rfl] at hun2
    have b1 := name_adv hL hs1 (kd := 2) (by decide)
    have n1 := name_mu hL hs1 k0 (kd := 2) (by decide)
    (repeat revert X); refine wE (And.intro tfPsR6 (And.intro f0 (And.intro f3 g2i))) ?_; repeat intro X hX
    refine callM (qname_any hL a _ xA s1 hs1 d 2) ?_
    rintro v m' ⟨rfl, rfl⟩
    refine wS tfPsR6 ?_
    (repeat (apply And.intro; focus ((repeat' apply And.intro) <;> first | omega | assumption)))
    have ht1 := htk.use (s := 1) ho
    have ho1 := Mine.new htk o 1
    refine hW n _ _ (by omega) ?_
    rw [hI]
    exact ⟨l ++ [(rName L 2 s1).1], (rName L 2 s1).2, _, _, b1.ok, by omega, by simp; omega, by rw [hr, hun2], f0, by rw [List.map_append]; rfl, rfl, ht1, ho1⟩
   | false =>
    rw [if_neg (by simp)] at hun2
    have b0 := want_adv hL hs1 wComma
    have b1 := name_adv hL b0.ok (kd := 2) (by decide)
    have n1 := mu_le b1
    have n2 := want_mu hL hs1 wComma
    (repeat revert X); refine wE (And.intro tfPsR6 (And.intro f0 (And.intro f3 g2i))) ?_; repeat intro X hX
    refine callM (qwant_any hL a _ xA s1 hs1 d wComma) ?_
    rintro v m' rfl
    refine wS aEQ_t ?_
    (repeat revert X); refine wE (And.intro f0 f3) ?_; repeat intro X hX
    refine callM (qname_any hL a _ xA _ b0.ok d 2) ?_
    rintro v m' ⟨rfl, rfl⟩
    refine wS tfPsR6 ?_
    (repeat (apply And.intro; focus ((repeat' apply And.intro) <;> first | omega | assumption)))
    have ht1 := htk.use (s := 1) ho
    have ho1 := Mine.new htk o 1
    refine hW n _ _ (by omega) ?_
    rw [hI]
    exact ⟨l ++ [(rName L 2 (s1.want L wComma)).1], (rName L 2 (s1.want L wComma)).2, _, _, b1.ok, by omega, by simp; omega, by rw [hr, hun2], f0, by rw [List.map_append]; rfl, rfl, ht1, ho1⟩
set_option maxHeartbeats 8000000 in
theorem qways_any (w : Str) : ACalls Tryz.prog 137 [.bp a 0, pS w] (qst L a m s d) (fun v m' => v = .sl .no ((rWays L d w s).1.map Tr.pv) ∧ m' = qst L a m (rWays L d w s).2 d) := by
 have hsk : ∀ (s : PS) w, s.skp L w = if s.is L w then s.nx else s := fun _ _ => rfl
 have hun : rWays L d w s = rWayL L (L.length + 1) d w [] s := rfl
 have hmx := mu_fx (L := L) (s := s)
 have hll := hL.le
 refine eN [5, 6] Tryz.func137 ?_
 (repeat revert X); refine wE tfPsR6 ?_; repeat intro X hX
 obtain ⟨I, hI⟩ : ∃ I : Nat → F → M → Prop, ∀ n g m', I n g m' = (∃ (l : List Tr) (s1 : PS) (o : Own) (mm : M), s1.ok L ∧ mu L s1 + 16 ≤ 16 * n ∧ l.length + n ≤ L.length + 1 ∧ rWays L d w s = rWayL L n d w l s1 ∧ g 0 = .bp a 0 ∧ g 1 = pS w ∧ g 5 = .sl o (l.map Tr.pv) ∧ m' = qst L a mm s1 d ∧ BaseR m mm ∧ Mine m mm o 12) := ⟨_, fun _ _ _ => rfl⟩
 refine aLoopN I (L.length + 1) ?_ ?_
 ·rw [hI]; exact ⟨[], s, .full, m, hs, by omega, by simp, hun, rfl, rfl, rfl, rfl, .refl m, .full⟩
 intro W n g m' hrel hW
 rw [hI] at hrel
 obtain ⟨l, s1, o, mm, hs1, hn, hln, hr, f0, f1, f5, rfl, htk, ho⟩ := hrel
 obtain ⟨n, rfl⟩ : ∃ k, n = k + 1 := ⟨n - 1, by omega⟩
 have hnb := htk.nb
 have hAm : a < mm.nb := by omega
 have hun2 : rWayL L (n + 1) d w l s1 = if s1.is L w then rWayL L n d w (l ++ [⟨(eX L d (s1.want L w)).1, (rName L 3 (if (eX L d (s1.want L w)).2.is L wCont then (eX L d (s1.want L w)).2.nx else (eX L d (s1.want L w)).2.want L wThen)).1, (eX L d (s1.want L w)).2.is L wCont, (s1.tk L).line, (s1.tk L).col⟩]) (rName L 3 (if (eX L d (s1.want L w)).2.is L wCont then (eX L d (s1.want L w)).2.nx else (eX L d (s1.want L w)).2.want L wThen)).2 else (l, s1) := rfl
 (repeat revert X); refine wE (And.intro f0 f1) ?_; repeat intro X hX
 refine callM (qis_any hL a _ xA s1 hs1 d w) ?_
 rintro v m' ⟨rfl, rfl⟩
 cases h1 : s1.is L w with
 | false =>
  rw [h1, if_neg (by simp)] at hun2
  refine wS @pB.eq_1 ?_
  (repeat revert X); refine wE f5 ?_; repeat intro X hX
  refine wQ Tryz.results137 aEQ_t ?_
  exact leave_qstB hA htk rfl ⟨by rw [hr, hun2]; rfl, by rw [hr, hun2]⟩
 | true =>
  rw [h1, if_pos rfl] at hun2
  have hw : s1.want L w = s1.nx := by unfold PS.want; rw [if_pos h1]
  rw [hw] at hun2
  have b1 := is_adv hL hs1 h1
  have n1 := mu_nx hL hs1 (is_of h1).1 (is_of h1).2.1
  have b2 := (eX_adv hL (d := d) b1.ok).1
  have n2 := mu_le b2
  have n0 := mu0 hs1 (is_of h1).1
  have hfree := ho.free
  have q1 : l.length + 1 ≤ maxLen := by unfold maxLen; omega
  have q2 : (l.length + 1) * 136 ≤ 140737488355328 := by omega
  have q3 := trs_one12 l
  refine wS @pB.eq_1 ?_
  (repeat revert X); refine wE f0 ?_; repeat intro X hX
  refine callM (qtok_any hL a _ xA _ hs1 d) ?_
  rintro v m' ⟨rfl, rfl⟩
  generalize s1.tk L = t at *
  refine wS (And.intro tfPsR6 hAm) ?_
  (repeat revert X); refine wE (And.intro f0 f1) ?_; repeat intro X hX
  refine callM (qwant_any hL a _ xA s1 hs1 d w) ?_
  rintro v m' rfl
  rw [hw]
  refine wS aEQ_t ?_
  (repeat revert X); refine wE f0 ?_; repeat intro X hX
  refine callM (qeX_any hL a _ xA _ b1.ok d hd) ?_
  rintro v m' ⟨rfl, rfl⟩
  generalize eX L d s1.nx = e at *
  rw [show e.1.pv = .ag [.v (.int .u8 e.1.kind), .v (.int .u8 e.1.op), .v (.int .i32 e.1.n), .v (.string e.1.name), .sl .no (e.1.names.map pS), .sl .no (e.1.kids.map Ex.pv), .v (.int .i64 e.1.line), .v (.int .i64 e.1.col)] from Ex.pv_eq e.1]
  refine wS (And.intro tfPsR6 hAm) ?_
  (repeat revert X); refine wE f0 ?_; repeat intro X hX
  refine callM (qskip_any hL a _ xA _ b2.ok d wCont) ?_
  rintro v m' ⟨rfl, rfl⟩
  rw [hsk]
  cases h2 : e.2.is L wCont with
  | true =>
   rw [h2, if_pos rfl] at hun2
   rw [if_pos rfl]
   have b3 := is_adv hL b2.ok h2
   have b4 := name_adv hL b3.ok (kd := 3) (by decide)
   have n4 := mu_le (b3.trans b4)
   refine wS (And.intro tfPsR6 (And.intro hAm @pB.eq_1)) ?_
   (repeat revert X); refine wE (And.intro tfPsR6 (And.intro f0 hAm)) ?_; repeat intro X hX
   refine callM (qname_any hL a _ xA _ b3.ok d 3) ?_
   rintro v m' ⟨rfl, rfl⟩
   generalize rName L 3 e.2.nx = r at *
   refine wS (And.intro tfPsR6 hAm) ?_
   (repeat (first | refine aReg ?_; simp -implicitDefEqProofs only [forall_eq, ↓slp, slb, ↓reduceIte, jA, jB, jC, jE, jF, tfPsR6, f5, hAm] | apply hX; clear hX X | apply And.intro; focus ((repeat' apply And.intro) <;> first | omega | assumption)))
   refine hW n _ _ (by omega) ?_
   rw [hI]
   exact ⟨l ++ [⟨e.1, r.1, true, t.line, t.col⟩], r.2, .tok mm.nt, _, b4.ok, by omega, by simp; omega, by rw [hr, hun2], f0, f1, by rw [List.map_append]; rfl, rfl, (htk.fresh ho).ext _, (Mine.newB htk o 12).ext _⟩
  | false =>
   rw [h2, if_neg (by simp)] at hun2
   rw [if_neg (by simp)]
   have b3 := want_adv hL b2.ok wThen
   have b4 := name_adv hL b3.ok (kd := 3) (by decide)
   have n4 := mu_le (b3.trans b4)
   refine wS (And.intro tfPsR6 (And.intro hAm @pB.eq_1)) ?_
   (repeat revert X); refine wE (And.intro tfPsR6 (And.intro f0 hAm)) ?_; repeat intro X hX
   refine callM (qwant_any hL a _ xA _ b2.ok d wThen) ?_
   rintro v m' rfl
   refine wS aEQ_t ?_
   (repeat revert X); refine wE f0 ?_; repeat intro X hX
   refine callM (qname_any hL a _ xA _ b3.ok d 3) ?_
   rintro v m' ⟨rfl, rfl⟩
   generalize rName L 3 (e.2.want L wThen) = r at *
   refine wS (And.intro tfPsR6 hAm) ?_
   (repeat (first | refine aReg ?_; simp -implicitDefEqProofs only [forall_eq, ↓slp, slb, ↓reduceIte, jA, jB, jC, jE, jF, tfPsR6, f5, hAm] | apply hX; clear hX X | apply And.intro; focus ((repeat' apply And.intro) <;> first | omega | assumption)))
   refine hW n _ _ (by omega) ?_
   rw [hI]
   exact ⟨l ++ [⟨e.1, r.1, false, t.line, t.col⟩], r.2, .tok mm.nt, _, b4.ok, by omega, by simp; omega, by rw [hr, hun2], f0, f1, by rw [List.map_append]; rfl, rfl, (htk.fresh ho).ext _, (Mine.newB htk o 12).ext _⟩
end

def tfPsR7 := And.intro @tfA (And.intro @Ex.settle_pv (And.intro @Ex.pure_pv (And.intro @Ex.cells_pv (And.intro @Ex.cs.eq_1 (And.intro @On.pv.eq_1 (And.intro @Ty.pv.eq_1 (And.intro @Va.settle_pv (And.intro @Va.pure_pv (And.intro @Va.cells_pv (And.intro @Va.cs.eq_1 (And.intro @Tk.settle_pv (And.intro @Tk.pure_pv (And.intro @Tk.cells_pv (And.intro @Tk.pv.eq_1 (And.intro @Tk.cs.eq_1 (And.intro @En.settle_pv (And.intro @En.pure_pv (And.intro @En.cells_pv (And.intro @En.pv.eq_1 (And.intro @En.cs.eq_1 (And.intro @qst_nb (And.intro @qst_nt (And.intro @qst_fresh (And.intro @qst_use (And.intro @qst_free (And.intro @qst_alive (And.intro @qst_a (And.intro @qst_upda (And.intro @qst_ext (And.intro @qst_ext2 (And.intro @qst_ea (And.intro @qst_own (And.intro @qst_own0 (And.intro @qst_ou @qst_ou0))))))))))))))))))))))))))))))))))

section
variable {L : List Tk} (hL : TksOk L) (a : Nat) (m : M) (hA : a < m.nb) (s : PS) (hs : s.ok L) (d : Int)
include hL hA hs
set_option maxHeartbeats 8000000 in
theorem qenum_any : ACalls Tryz.prog 57 [.bp a 0] (qst L a m s d) (fun v m' => v = (rEnum L s).1.pv ∧ m' = qst L a m (rEnum L s).2 d) := by
 have a1 := want_adv hL hs wType
 have a2 := name_adv hL a1.ok (kd := 2) (by decide)
 have a3 := want_adv hL a2.ok wEq
 have hun : rEnum L s = (⟨(rName L 2 (s.want L wType)).1, (rCtL L (L.length + 1) [] ((rName L 2 (s.want L wType)).2.want L wEq)).1, ((s.want L wType).tk L).line, ((s.want L wType).tk L).col⟩, (rCtL L (L.length + 1) [] ((rName L 2 (s.want L wType)).2.want L wEq)).2.want L wSemi) := rfl
 have hll := hL.le
 refine eN [2, 3] Tryz.func57 ?_
 (repeat revert X); refine wE (And.intro tfPsR7 hA) ?_; repeat intro X hX
 refine callM (qwant_any hL a _ xA s hs d wType) ?_
 rintro v m' rfl
 refine wS tfPsR7 ?_
 (repeat revert X); refine wE aEQ_t ?_; repeat intro X hX
 refine callM (qtok_any hL a _ xA _ a1.ok d) ?_
 rintro v m' ⟨rfl, rfl⟩
 generalize (s.want L wType).tk L = t at *
 refine wS (And.intro tfPsR7 hA) ?_
 (repeat revert X); refine wE aEQ_t ?_; repeat intro X hX
 refine callM (qname_any hL a _ xA _ a1.ok d 2) ?_
 rintro v m' ⟨rfl, rfl⟩
 generalize rName L 2 (s.want L wType) = nm at *
 refine wS (And.intro tfPsR7 hA) ?_
 (repeat revert X); refine wE aEQ_t ?_; repeat intro X hX
 refine callM (qwant_any hL a _ xA _ a2.ok d wEq) ?_
 rintro v m' rfl
 generalize nm.2.want L wEq = s4 at *
 refine wS tfPsR7 ?_
 (repeat revert X); refine wE aEQ_t ?_; repeat intro X hX
 have hmx := mu_fx (L := L) (s := s4)
 obtain ⟨r, hr0⟩ : ∃ r, rCtL L (L.length + 1) [] s4 = r := ⟨_, rfl⟩
 rw [hr0] at hun
 obtain ⟨I, hI⟩ : ∃ I : Nat → F → M → Prop, ∀ n g m', I n g m' = (∃ (l : List Str) (s5 : PS) (o : Own) (mm : M), s5.ok L ∧ mu L s5 + 16 ≤ 16 * n ∧ l.length + n ≤ L.length + 1 ∧ r = rCtL L n l s5 ∧ g 0 = .bp a 0 ∧ g 2 = .bp m.nb 0 ∧ g 3 = .bp (m.nb + 1) 0 ∧ m' = qst L a (mm.ext [some [.v (.string ⟨#[]⟩), .sl .full [], .v (.int .i64 0), .v (.int .i64 0)], some [.v (.string nm.1), .sl o (l.map pS), .v (.int .i64 t.line), .v (.int .i64 t.col)]]) s5 d ∧ Toks m mm ∧ Mine m mm o 1) := ⟨_, fun _ _ _ => rfl⟩
 refine aLoopN I (L.length + 1) ?_ ?_
 ·rw [hI]; exact ⟨[], s4, .full, m, a3.ok, by omega, by simp, hr0.symm, rfl, rfl, rfl, rfl, .refl m, .full⟩
 intro W n g m' hrel hW
 rw [hI] at hrel
 obtain ⟨l, s5, o, mm, hs5, hn, hln, hr, f0, f2, f3, rfl, htk, ho⟩ := hrel
 clear hr0
 obtain ⟨n, rfl⟩ : ∃ k, n = k + 1 := ⟨n - 1, by omega⟩
 have hnb := htk.nb
 have hAm : a < mm.nb := by omega
 have hun2 : rCtL L (n + 1) l s5 = if s5.k == 0 then (if (rName L 3 (if l.length == 32 then s5.here L 3 else s5)).2.is L wBar then rCtL L n (l ++ [(rName L 3 (if l.length == 32 then s5.here L 3 else s5)).1]) (rName L 3 (if l.length == 32 then s5.here L 3 else s5)).2.nx else (l ++ [(rName L 3 (if l.length == 32 then s5.here L 3 else s5)).1], (rName L 3 (if l.length == 32 then s5.here L 3 else s5)).2)) else (l, s5) := rfl
 cases h1 : (s5.k == 0) with
 | false =>
  rw [h1, if_neg (by simp)] at hun2
  (repeat revert X); refine wE (And.intro tfPsR7 (And.intro f0 (And.intro hnb (And.intro hA h1)))) ?_; repeat intro X hX
  refine callM (qwant_any hL a _ xA s5 hs5 d wSemi) ?_
  rintro v m' rfl
  refine wS tfPsR7 ?_
  (repeat revert X); refine wE (And.intro tfPsR7 (And.intro f2 (And.intro f3 (And.intro hnb hA)))) ?_; repeat intro X hX
  refine wQ Tryz.results57 (And.intro tfPsR7 (And.intro f2 (And.intro hnb hA))) ?_
  exact leave_qst hA htk rfl ⟨by rw [hun, hr, hun2]; rfl, by rw [hun, hr, hun2]⟩
 | true =>
  have k0 : s5.k = 0 := by simpa using h1
  rw [h1, if_pos rfl] at hun2
  have n0 := mu0 hs5 k0
  have hl2 : l.length ≤ 70000 := by omega
  have join : ∀ (X : F → M → Prop) (g : F) (s6 : PS), True := fun _ _ _ => trivial
  obtain ⟨c1, g1⟩ : ∃ b, (l.length == 32) = b := ⟨_, rfl⟩
  have g1i : ((l.length : Int) == 32) = c1 := by rw [← g1]; cases hq : (l.length == 32) <;> simp at hq ⊢ <;> omega
  rw [g1] at hun2
  have hfree := ho.free
  have q1 : l.length + 1 ≤ maxLen := by unfold maxLen; omega
  have q2 : (l.length + 1) * 16 ≤ 140737488355328 := by omega
  have q3 := strs_one1 l
  cases c1 with
  | true =>
   simp only [↓reduceIte] at hun2
   have b0 := here_adv hL hs5 3
   (repeat revert X); refine wE (And.intro tfPsR7 (And.intro f0 (And.intro f3 (And.intro hnb (And.intro hA (And.intro h1 g1i)))))) ?_; repeat intro X hX
   refine callM (qhere_any hL a _ xA s5 hs5 d 3) ?_
   rintro v m' rfl
   generalize s5.here L 3 = s6 at *
   refine wS aEQ_t ?_
   (repeat revert X); refine wE aEQ_t ?_; repeat intro X hX
   refine aDrwE (isQ1 L a m [.v (.string nm.1), .sl o (l.map pS), .v (.int .i64 t.line), .v (.int .i64 t.col)] d) (hne := List.cons_ne_nil _ _) rfl (by kernel_rfl) (by kernel_rfl) (isQ1_of htk.boxes) ?_
   simp -implicitDefEqProofs only [↓slp, slb, ↓reduceIte, reduceCtorEq, jA, jB, jD, jF, tfPsR7, f0, f3, hnb, hA, isQ1_all, qst_gx1, List.dropLast_cons_cons, List.dropLast_singleton, List.getLast_cons_cons, List.getLast_singleton]
   refine callM (qname_any hL a _ xA s6 b0.ok d 3) ?_
   rintro v m' ⟨rfl, rfl⟩
   have b1 := name_adv hL b0.ok (kd := 3) (by decide)
   have n1 := mu_le (b0.trans b1)
   generalize rName L 3 s6 = c at *
   refine ⟨isQ1_of htk.boxes, ?_⟩
   refine wS (And.intro tfPsR7 (And.intro f3 (And.intro hnb hA))) ?_
   (repeat ((apply And.intro; (focus (trivial)))))
   have ht1 := htk.use (s := 1) ho
   have ho1 := Mine.new htk o 1
   refine ⟨isQ1_of ht1.boxes, ?_⟩
   have hnb1 := ht1.nb
   have hA1 : a < ((o.use mm).fresh 1).nb := by omega
   generalize (o.use mm).fresh 1 = m1 at *
   generalize Own.tok mm.nt = o1 at *
   clear htk ho hnb hAm
   (repeat revert X); refine wE f0 ?_; repeat intro X hX
   refine callM (qskip_any hL a _ xA _ b1.ok d wBar) ?_
   rintro v m' ⟨rfl, rfl⟩
   rw [show c.2.skp L wBar = if c.2.is L wBar then c.2.nx else c.2 from rfl]
   cases h3 : c.2.is L wBar with
   | true =>
    rw [h3, if_pos rfl] at hun2
    rw [if_pos rfl]
    have b2 := is_adv hL b1.ok h3
    have n2 := mu_nx hL b1.ok (is_of h3).1 (is_of h3).2.1
    refine wS (And.intro tfPsR7 @pB.eq_1) ?_
    (repeat revert X); refine wE tfPsR7 ?_; repeat intro X hX
    refine hW n _ _ (by omega) ?_
    rw [hI]
    exact ⟨l ++ [c.1], c.2.nx, o1, m1, b2.ok, by omega, by simp; omega, by rw [hr, hun2], f0, f2, f3, by rw [List.map_append]; rfl, ht1, ho1⟩
   | false =>
    rw [h3, if_neg (by simp)] at hun2
    rw [if_neg (by simp)]
    refine wS (And.intro tfPsR7 @pB.eq_1) ?_
    (repeat revert X); refine wE (And.intro tfPsR7 f0) ?_; repeat intro X hX
    refine callM (qwant_any hL a _ xA _ b1.ok d wSemi) ?_
    rintro v m' rfl
    refine wS tfPsR7 ?_
    (repeat revert X); refine wE (And.intro tfPsR7 (And.intro f2 (And.intro f3 (And.intro hnb1 hA)))) ?_; repeat intro X hX
    refine wQ Tryz.results57 (And.intro tfPsR7 (And.intro f2 (And.intro hnb1 hA))) ?_
    exact leave_qst hA ht1 rfl ⟨by rw [hun, hr, hun2]; simp only [En.pv, En.cs, List.map_append]; rfl, by rw [hun, hr, hun2]⟩
  | false =>
   simp only [Bool.false_eq_true, ↓reduceIte] at hun2
   have b0 := Adv.refl hs5
   (repeat revert X); refine wE (And.intro tfPsR7 (And.intro f0 (And.intro f3 (And.intro hnb (And.intro hA (And.intro h1 g1i)))))) ?_; repeat intro X hX
   refine aDrwE (isQ1 L a m [.v (.string nm.1), .sl o (l.map pS), .v (.int .i64 t.line), .v (.int .i64 t.col)] d) (hne := List.cons_ne_nil _ _) rfl (by kernel_rfl) (by kernel_rfl) (isQ1_of htk.boxes) ?_
   simp -implicitDefEqProofs only [↓slp, slb, ↓reduceIte, reduceCtorEq, jA, jB, jD, jF, tfPsR7, f0, f3, hnb, hA, isQ1_all, qst_gx1, List.dropLast_cons_cons, List.dropLast_singleton, List.getLast_cons_cons, List.getLast_singleton]
   refine callM (qname_any hL a _ xA s5 b0.ok d 3) ?_
   rintro v m' ⟨rfl, rfl⟩
   have b1 := name_adv hL b0.ok (kd := 3) (by decide)
   have n1 := mu_le (b0.trans b1)
   generalize rName L 3 s5 = c at *
   refine ⟨isQ1_of htk.boxes, ?_⟩
   refine wS (And.intro tfPsR7 (And.intro f3 (And.intro hnb hA))) ?_
   (repeat ((apply And.intro; (focus (trivial)))))
   have ht1 := htk.use (s := 1) ho
   have ho1 := Mine.new htk o 1
   refine ⟨isQ1_of ht1.boxes, ?_⟩
   have hnb1 := ht1.nb
   have hA1 : a < ((o.use mm).fresh 1).nb := by omega
   generalize (o.use mm).fresh 1 = m1 at *
   generalize Own.tok mm.nt = o1 at *
   clear htk ho hnb hAm
   (repeat revert X); refine wE f0 ?_; repeat intro X hX
   refine callM (qskip_any hL a _ xA _ b1.ok d wBar) ?_
   rintro v m' ⟨rfl, rfl⟩
   rw [show c.2.skp L wBar = if c.2.is L wBar then c.2.nx else c.2 from rfl]
   cases h3 : c.2.is L wBar with
   | true =>
    rw [h3, if_pos rfl] at hun2
    rw [if_pos rfl]
    have b2 := is_adv hL b1.ok h3
    have n2 := mu_nx hL b1.ok (is_of h3).1 (is_of h3).2.1
    refine wS (And.intro tfPsR7 @pB.eq_1) ?_
    (repeat revert X); refine wE tfPsR7 ?_; repeat intro X hX
    refine hW n _ _ (by omega) ?_
    rw [hI]
    exact ⟨l ++ [c.1], c.2.nx, o1, m1, b2.ok, by omega, by simp; omega, by rw [hr, hun2], f0, f2, f3, by rw [List.map_append]; rfl, ht1, ho1⟩
   | false =>
    rw [h3, if_neg (by simp)] at hun2
    rw [if_neg (by simp)]
    refine wS (And.intro tfPsR7 @pB.eq_1) ?_
    (repeat revert X); refine wE (And.intro tfPsR7 f0) ?_; repeat intro X hX
    refine callM (qwant_any hL a _ xA _ b1.ok d wSemi) ?_
    rintro v m' rfl
    refine wS tfPsR7 ?_
    (repeat revert X); refine wE (And.intro tfPsR7 (And.intro f2 (And.intro f3 (And.intro hnb1 hA)))) ?_; repeat intro X hX
    refine wQ Tryz.results57 (And.intro tfPsR7 (And.intro f2 (And.intro hnb1 hA))) ?_
    exact leave_qst hA ht1 rfl ⟨by rw [hun, hr, hun2]; simp only [En.pv, En.cs, List.map_append]; rfl, by rw [hun, hr, hun2]⟩
end
end Go.Proofs.YtohgdopfjkjppaaGreatDoor
