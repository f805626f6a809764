/-
 Texts that belong together: PsR11, PsR12, PsR13.
-/
-- halved
import Derived.Test.YtohgdopfjkjppaaGreatDoorAbMac
import Derived.Test.YtohgdopfjkjppaaGreatDoorPsR10
set_option linter.unusedSectionVars false
set_option linter.unusedVariables false
set_option linter.unusedSimpArgs false
namespace Go.Proofs.YtohgdopfjkjppaaGreatDoor
open Nat renaming reduceEqDiff → jA, reduceAdd → jB, reduceMul → jC, reduceLT → jD, reduceLeDiff → jE, reduceBEq → jF, reduceBNe → jG
open Int renaming reduceLE → jH, reduceLT → jI, reduceToNat → jJ, reduceEq → jK
open Go
set_option maxRecDepth 20000
set_option linter.defProp false
def tfPsR11 := And.intro @tfA (And.intro @Ex.settle_pv (And.intro @Ex.pure_pv (And.intro @Ex.cells_pv (And.intro @Ex.cs.eq_1 (And.intro @On.pv.eq_1 (And.intro @Ty.pv.eq_1 (And.intro @Va.settle_pv (And.intro @Va.pure_pv (And.intro @Va.cells_pv (And.intro @Va.cs.eq_1 (And.intro @Tk.settle_pv (And.intro @Tk.pure_pv (And.intro @Tk.cells_pv (And.intro @Tk.pv.eq_1 (And.intro @Tk.cs.eq_1 (And.intro @Tr.settle_pv (And.intro @Tr.pure_pv (And.intro @Tr.cells_pv (And.intro @Qu.settle_pv (And.intro @Qu.pure_pv (And.intro @Qu.cells_pv (And.intro @No.settle_pv (And.intro @No.pure_pv (And.intro @No.cells_pv (And.intro @Am.settle_pv (And.intro @Am.pure_pv (And.intro @Am.cells_pv (And.intro @qst_nb (And.intro @qst_nt (And.intro @qst_fresh (And.intro @qst_use (And.intro @qst_free (And.intro @qst_alive (And.intro @qst_a (And.intro @qst_upda (And.intro @qst_ext (And.intro @qst_ext2 (And.intro @qst_ea (And.intro @qst_own (And.intro @qst_own0 (And.intro @qst_ou @qst_ou0)))))))))))))))))))))))))))))))))))))))))

section
variable {L : List Tk} (hL : TksOk L) (a : Nat) (m : M) (hA : a < m.nb) (s : PS) (hs : s.ok L)
include hL hA hs
theorem qeqsX_any (d : Int) (hd : (0 ≤ d ∧ d ≤ 65) ∧ (s.k = 0 → d ≤ 64)) : ACalls Tryz.prog 81 [.bp a 0] (qst L a m s d) (fun v m' => v = .sl .no ((rEqs L (fq L) d [] s).1.map Qu.pv) ∧ m' = qst L a m (rEqs L (fq L) d [] s).2 d) := by
 have := mu_fx (L := L) (s := s)
 exact (qblC hL (qright_any hL) (fq L) _ (Nat.le_refl _)).eqs a m hA s hs d hd (by unfold fq; omega)
set_option maxHeartbeats 8000000 in
theorem qnode_any : ACalls Tryz.prog 58 [.bp a 0] (qst L a m s 0) (fun v m' => v = (rNode L s).1.pv ∧ m' = qst L a m (rNode L s).2 0) := by
 have a1 := want_adv hL hs wNode
 have a2 := name_adv hL a1.ok (kd := 2) (by decide)
 have a3 := want_adv hL a2.ok wOpen
 have hun : rNode L s = (⟨(rName L 2 (s.want L wNode)).1, (rParams L 0 ((rName L 2 (s.want L wNode)).2.want L wOpen)).1, (rParams L 0 ((((rParams L 0 ((rName L 2 (s.want L wNode)).2.want L wOpen)).2.want L wShut).want L wReturns).want L wOpen)).1,
  ⟨(rLocals L 0 ((rParams L 0 ((((rParams L 0 ((rName L 2 (s.want L wNode)).2.want L wOpen)).2.want L wShut).want L wReturns).want L wOpen)).2.want L wShut)).1, (rEqs L (fq L) 0 [] ((rLocals L 0 ((rParams L 0 ((((rParams L 0 ((rName L 2 (s.want L wNode)).2.want L wOpen)).2.want L wShut).want L wReturns).want L wOpen)).2.want L wShut)).2.want L wLet)).1⟩, ((s.want L wNode).tk L).line, ((s.want L wNode).tk L).col⟩,
  (rEqs L (fq L) 0 [] ((rLocals L 0 ((rParams L 0 ((((rParams L 0 ((rName L 2 (s.want L wNode)).2.want L wOpen)).2.want L wShut).want L wReturns).want L wOpen)).2.want L wShut)).2.want L wLet)).2.want L wTel) := rfl
 have hd : (0 : Int) ≤ 0 ∧ (0 : Int) ≤ 64 := by decide
 refine eN [2, 3] Tryz.func58 ?_
 (repeat revert X); refine wE (And.intro tfPsR11 hA) ?_; repeat intro X hX
 refine callM (qwant_any hL a _ xA s hs 0 wNode) ?_
 rintro v m' rfl
 refine wS aEQ_t ?_
 (repeat revert X); refine wE aEQ_t ?_; repeat intro X hX
 refine callM (qtok_any hL a _ xA _ a1.ok 0) ?_
 rintro v m' ⟨rfl, rfl⟩
 generalize (s.want L wNode).tk L = t at *
 refine wS (And.intro tfPsR11 hA) ?_
 (repeat revert X); refine wE aEQ_t ?_; repeat intro X hX
 refine callM (qname_any hL a _ xA _ a1.ok 0 2) ?_
 rintro v m' ⟨rfl, rfl⟩
 generalize rName L 2 (s.want L wNode) = nm at *
 refine wS (And.intro tfPsR11 hA) ?_
 (repeat revert X); refine wE aEQ_t ?_; repeat intro X hX
 refine callM (qwant_any hL a _ xA _ a2.ok 0 wOpen) ?_
 rintro v m' rfl
 generalize nm.2.want L wOpen = s3 at *
 refine wS aEQ_t ?_
 (repeat revert X); refine wE aEQ_t ?_; repeat intro X hX
 have a4 := params_adv hL (d := 0) a3.ok
 refine callM (qparams_any hL a _ xA _ a3.ok 0 hd) ?_
 rintro v m' ⟨rfl, rfl⟩
 generalize rParams L 0 s3 = p at *
 refine wS (And.intro tfPsR11 hA) ?_
 (repeat revert X); refine wE aEQ_t ?_; repeat intro X hX
 have a5 := want_adv hL a4.ok wShut
 refine callM (qwant_any hL a _ xA _ a4.ok 0 wShut) ?_
 rintro v m' rfl
 generalize p.2.want L wShut = s5 at *
 refine wS aEQ_t ?_
 (repeat revert X); refine wE aEQ_t ?_; repeat intro X hX
 have a6 := want_adv hL a5.ok wReturns
 refine callM (qwant_any hL a _ xA _ a5.ok 0 wReturns) ?_
 rintro v m' rfl
 generalize s5.want L wReturns = s6 at *
 refine wS aEQ_t ?_
 (repeat revert X); refine wE aEQ_t ?_; repeat intro X hX
 have a7 := want_adv hL a6.ok wOpen
 refine callM (qwant_any hL a _ xA _ a6.ok 0 wOpen) ?_
 rintro v m' rfl
 generalize s6.want L wOpen = s7 at *
 refine wS aEQ_t ?_
 (repeat revert X); refine wE aEQ_t ?_; repeat intro X hX
 have a8 := params_adv hL (d := 0) a7.ok
 refine callM (qparams_any hL a _ xA _ a7.ok 0 hd) ?_
 rintro v m' ⟨rfl, rfl⟩
 generalize rParams L 0 s7 = q at *
 refine wS (And.intro tfPsR11 hA) ?_
 (repeat revert X); refine wE aEQ_t ?_; repeat intro X hX
 have a9 := want_adv hL a8.ok wShut
 refine callM (qwant_any hL a _ xA _ a8.ok 0 wShut) ?_
 rintro v m' rfl
 generalize q.2.want L wShut = s9 at *
 refine wS aEQ_t ?_
 (repeat revert X); refine wE aEQ_t ?_; repeat intro X hX
 have a10 := locals_adv hL (d := 0) a9.ok
 refine callM (qlocals_any hL a _ xA _ a9.ok 0 ⟨⟨by decide, by decide⟩, fun _ => by decide⟩) ?_
 rintro v m' ⟨rfl, rfl⟩
 generalize rLocals L 0 s9 = w at *
 refine wS (And.intro tfPsR11 hA) ?_
 (repeat revert X); refine wE aEQ_t ?_; repeat intro X hX
 have a11 := want_adv hL a10.ok wLet
 refine callM (qwant_any hL a _ xA _ a10.ok 0 wLet) ?_
 rintro v m' rfl
 generalize w.2.want L wLet = s11 at *
 refine wS aEQ_t ?_
 (repeat revert X); refine wE aEQ_t ?_; repeat intro X hX
 have a12 := eqsX_adv hL (d := 0) a11.ok
 refine callM (qeqsX_any hL a _ xA _ a11.ok 0 ⟨⟨by decide, by decide⟩, fun _ => by decide⟩) ?_
 rintro v m' ⟨rfl, rfl⟩
 generalize rEqs L (fq L) 0 [] s11 = z at *
 refine wS (And.intro tfPsR11 hA) ?_
 (repeat revert X); refine wE aEQ_t ?_; repeat intro X hX
 refine callM (qwant_any hL a _ xA _ a12.ok 0 wTel) ?_
 rintro v m' rfl
 refine wS aEQ_t ?_
 (repeat revert X); refine wE (And.intro tfPsR11 hA) ?_; repeat intro X hX
 refine wQ Tryz.results58 (And.intro tfPsR11 hA) ?_
 exact leave_qst hA (.refl m) rfl ⟨by rw [hun]; rfl, by rw [hun]⟩
end

def tfPsR12 := And.intro @tfA (And.intro @Ex.settle_pv (And.intro @Ex.pure_pv (And.intro @Ex.cells_pv (And.intro @Ex.cs.eq_1 (And.intro @On.pv.eq_1 (And.intro @Ty.pv.eq_1 (And.intro @Va.settle_pv (And.intro @Va.pure_pv (And.intro @Va.cells_pv (And.intro @Va.cs.eq_1 (And.intro @Tk.settle_pv (And.intro @Tk.pure_pv (And.intro @Tk.cells_pv (And.intro @Tk.pv.eq_1 (And.intro @Tk.cs.eq_1 (And.intro @Tr.settle_pv (And.intro @Tr.pure_pv (And.intro @Tr.cells_pv (And.intro @Qu.settle_pv (And.intro @Qu.pure_pv (And.intro @Qu.cells_pv (And.intro @No.settle_pv (And.intro @No.pure_pv (And.intro @No.cells_pv (And.intro @En.settle_pv (And.intro @En.pure_pv (And.intro @En.cells_pv (And.intro @Am.settle_pv (And.intro @Am.pure_pv (And.intro @Am.cells_pv (And.intro @qst_nb (And.intro @qst_nt (And.intro @qst_fresh (And.intro @qst_use (And.intro @qst_free (And.intro @qst_alive (And.intro @qst_a (And.intro @qst_upda (And.intro @qst_ext (And.intro @qst_ext2 (And.intro @qst_ea (And.intro @qst_own (And.intro @qst_own0 (And.intro @qst_ou @qst_ou0))))))))))))))))))))))))))))))))))))))))))))

def rProgW (L : List Tk) : (List En × List No) × Int × Int × Int :=
 let r := rProg L (L.length + 1) [] [] ⟨0, 0, 0, 0⟩
 if r.2.k == 0 then (r.1, 0, 0, 0) else (([], []), r.2.k, r.2.l, r.2.c)
def rExprW (L : List Tk) : Ex × Int × Int × Int :=
 let r := eX L 0 ⟨0, 0, 0, 0⟩
 let s := if r.2.k == 0 && !((r.2.tk L).kind == 0) then r.2.here L 2 else r.2
 if s.k == 0 then (r.1, 0, 0, 0) else (z0, s.k, s.l, s.c)
def rdB (L : List Tk) (s : PS) (d : Int) : List PV := [.sl .no (L.map Tk.pv), .v (.int .i64 (s.i : Int)), .v (.int .i64 d), .v (.int .i64 s.k), .v (.int .i64 s.l), .v (.int .i64 s.c)]
theorem ok0 {L : List Tk} (hL : TksOk L) : (⟨0, 0, 0, 0⟩ : PS).ok L := ⟨hL.pos, fun h => absurd rfl h, .inl rfl⟩
set_option maxHeartbeats 8000000 in
theorem qProgram_bad (t : Str) {L : List Tk} {k l c : Int} (hk : k ≠ 0) (hW : ∀ m : M, ACalls Tryz.prog 18 [pS t] m (fun v m' => v = .tp [.sl .no (L.map Tk.pv), .v (.int .i64 k), posPV l c] ∧ m' = m)) (m : M) : ACalls Tryz.prog 26 [pS t] m (fun v m' => v = .tp [.ag [.sl .no [], .sl .no []], .v (.int .i64 k), posPV l c] ∧ m' = m) := by
 have hkb : (k == 0) = false := by simpa using hk
 refine eN [2, 4, 7, 23, 9] Tryz.func26 ?_
 (repeat revert X); refine wE tfPsR12 ?_; repeat intro X hX
 refine callM (hW _) ?_
 rintro v m' ⟨rfl, rfl⟩
 refine wS tfPsR12 ?_
 (repeat revert X); refine wE hkb ?_; repeat intro X hX
 have hS : ∀ x : Subtype (fun m2 : M => m2.get (m.nb + 2) = some [.v (.int .i64 l), .v (.int .i64 c)]), x.1.get (m.nb + 2) = some [.v (.int .i64 l), .v (.int .i64 c)] := fun x => x.2
 refine aDrw (isBX (m.nb + 2) [.v (.int .i64 l), .v (.int .i64 c)]) (by kernel_rfl) (isBX_of (ext_get (i := 2) rfl)) ?_
 simp -implicitDefEqProofs only [↓slp, slb, ↓reduceIte, jA, jB, jE, jF, tfPsR12, isBX_all, hS]
 refine ⟨isBX_of (ext_get (i := 2) rfl), isBX_of (ext_get (i := 2) rfl), ?_⟩
 (repeat revert X); refine wE aEQ_t ?_; repeat intro X hX
 refine wQ Tryz.results26 tfPsR12 ?_
 exact leave_ext rfl ⟨rfl, rfl⟩
theorem enum_adv2 {L : List Tk} (hL : TksOk L) {s : PS} (h : s.ok L) : Adv L (s.want L wType) (rEnum L s).2 := by
 have a1 := want_adv hL h wType
 have a2 := name_adv hL a1.ok (kd := 2) (by decide)
 have a3 := want_adv hL a2.ok wEq
 have a4 := ctL_adv hL (L.length + 1) [] _ a3.ok
 exact (a2.trans a3).trans (a4.trans (want_adv hL a4.ok wSemi))
theorem node_adv2 {L : List Tk} (hL : TksOk L) {s : PS} (h : s.ok L) : Adv L (s.want L wNode) (rNode L s).2 := by
 have a1 := want_adv hL h wNode
 have a2 := name_adv hL a1.ok (kd := 2) (by decide)
 have a3 := want_adv hL a2.ok wOpen
 have a4 := params_adv hL (d := 0) a3.ok
 have a5 := want_adv hL a4.ok wShut
 have a6 := want_adv hL a5.ok wReturns
 have a7 := want_adv hL a6.ok wOpen
 have a8 := params_adv hL (d := 0) a7.ok
 have a9 := want_adv hL a8.ok wShut
 have a10 := locals_adv hL (d := 0) a9.ok
 have a11 := want_adv hL a10.ok wLet
 have a12 := eqsX_adv hL (d := 0) a11.ok
 exact ((a2.trans a3).trans (a4.trans a5)).trans ((a6.trans (a7.trans a8)).trans ((a9.trans (a10.trans (a11.trans a12))).trans (want_adv hL a12.ok wTel)))
abbrev xR : List PV := [.sl .full [], .sl .full []]
abbrev xP : List PV := [.v (.int .i64 0), .v (.int .i64 0)]
section
variable {L : List Tk} (hL : TksOk L) {m mm : M} (hn : mm.nb = m.nb) {PR : List PV} {s : PS} (hs : s.ok L)
include hn in
theorem hq {d : Int} : qst L (m.nb + 3) (mm.ext [some xR, some xP, some xP, some [], some PR]) s d = mm.ext [some xR, some xP, some xP, some (rdB L s d), some PR] := ext_upd (i := 3) hn
include hn in
theorem hq3 : m.nb + 3 < (mm.ext [some xR, some xP, some xP, some [], some PR]).nb := by rw [ext_nb, hn]; simp
include hL hn hs
theorem xis (w : Str) : ACalls Tryz.prog 56 [.bp (m.nb + 3) 0, .v (.string w)] (mm.ext [some xR, some xP, some xP, some (rdB L s 0), some PR]) (fun v m' => v = pB (s.is L w) ∧ m' = mm.ext [some xR, some xP, some xP, some (rdB L s 0), some PR]) := by
 have := qis_any hL (m.nb + 3) _ (hq3 (PR := PR) hn) s hs 0 w
 rwa [hq hn] at this
theorem xtok : ACalls Tryz.prog 20 [.bp (m.nb + 3) 0] (mm.ext [some xR, some xP, some xP, some (rdB L s 0), some PR]) (fun v m' => v = (s.tk L).pv ∧ m' = mm.ext [some xR, some xP, some xP, some (rdB L s 0), some PR]) := by
 have := qtok_any hL (m.nb + 3) _ (hq3 (PR := PR) hn) s hs 0
 rwa [hq hn] at this
theorem xhere (k : Int) : ACalls Tryz.prog 21 [.bp (m.nb + 3) 0, .v (.int .i64 k)] (mm.ext [some xR, some xP, some xP, some (rdB L s 0), some PR]) (fun v m' => m' = mm.ext [some xR, some xP, some xP, some (rdB L (s.here L k) 0), some PR]) := by
 have := qhere_any hL (m.nb + 3) _ (hq3 (PR := PR) hn) s hs 0 k
 simpa only [hq hn] using this
theorem xenum : ACalls Tryz.prog 57 [.bp (m.nb + 3) 0] (mm.ext [some xR, some xP, some xP, some (rdB L s 0), some PR]) (fun v m' => v = (rEnum L s).1.pv ∧ m' = mm.ext [some xR, some xP, some xP, some (rdB L (rEnum L s).2 0), some PR]) := by
 have := qenum_any hL (m.nb + 3) _ (hq3 (PR := PR) hn) s hs 0
 simpa only [hq hn] using this
theorem xnode : ACalls Tryz.prog 58 [.bp (m.nb + 3) 0] (mm.ext [some xR, some xP, some xP, some (rdB L s 0), some PR]) (fun v m' => v = (rNode L s).1.pv ∧ m' = mm.ext [some xR, some xP, some xP, some (rdB L (rNode L s).2 0), some PR]) := by
 have := qnode_any hL (m.nb + 3) _ (hq3 (PR := PR) hn) s hs
 simpa only [hq hn] using this
end
set_option maxHeartbeats 8000000 in
theorem qProgram_any (t : Str) {L : List Tk} (hL : TksOk L) (hW : ∀ m : M, ACalls Tryz.prog 18 [pS t] m (fun v m' => v = .tp [.sl .no (L.map Tk.pv), .v (.int .i64 0), posPV 0 0] ∧ m' = m)) (m : M) : ACalls Tryz.prog 26 [pS t] m (fun v m' => v = .tp [.ag [.sl .no ((rProgW L).1.1.map En.pv), .sl .no ((rProgW L).1.2.map No.pv)], .v (.int .i64 (rProgW L).2.1), posPV (rProgW L).2.2.1 (rProgW L).2.2.2] ∧ m' = m) := by
 refine eN [2, 4, 7, 23, 9] Tryz.func26 ?_
 (repeat revert X); refine wE tfPsR12 ?_; repeat intro X hX
 refine callM (hW _) ?_
 rintro v m' ⟨rfl, rfl⟩
 refine wS tfPsR12 ?_
 (repeat revert X); refine wE tfPsR12 ?_; repeat intro X hX
 have hll := hL.le
 have hmx := mu_fx (L := L) (s := ⟨0, 0, 0, 0⟩)
 obtain ⟨r, hr0⟩ : ∃ r, rProg L (L.length + 1) [] [] ⟨0, 0, 0, 0⟩ = r := ⟨_, rfl⟩
 have hun : rProgW L = if r.2.k == 0 then (r.1, 0, 0, 0) else (([], []), r.2.k, r.2.l, r.2.c) := by unfold rProgW; rw [hr0]
 obtain ⟨I, hI⟩ : ∃ I : Nat → F → M → Prop, ∀ n g m', I n g m' = (∃ (es : List En) (ns : List No) (s : PS) (oe on : Own) (mm : M), s.ok L ∧ mu L s + 16 ≤ 16 * n ∧ es.length + ns.length + n ≤ L.length + 1 ∧ r = rProg L n es ns s ∧ g 2 = .bp m.nb 0 ∧ g 4 = .bp (m.nb + 1) 0 ∧ g 8 = .bp (m.nb + 3) 0 ∧ g 9 = .bp (m.nb + 4) 0 ∧ m' = mm.ext [some xR, some xP, some xP, some (rdB L s 0), some [.sl oe (es.map En.pv), .sl on (ns.map No.pv)]] ∧ Toks m mm ∧ Mine m mm oe 4 ∧ Mine m mm on 7 ∧ (∀ t, oe = .tok t → on ≠ .tok t)) := ⟨_, fun _ _ _ => rfl⟩
 refine aLoopN I (L.length + 1) ?_ ?_
 ·rw [hI]; exact ⟨[], [], ⟨0, 0, 0, 0⟩, .full, .full, m, ok0 hL, by omega, by simp, hr0.symm, rfl, rfl, rfl, rfl, rfl, .refl m, .full, .full, fun t h => by cases h⟩
 clear hr0
 intro W n g m' hrel hW
 rw [hI] at hrel
 obtain ⟨es, ns, s, oe, on, mm, hs, hn, hln, hr, f2, f4, f8, f9, rfl, htk, hoe, hon, hne⟩ := hrel
 obtain ⟨n, rfl⟩ : ∃ k, n = k + 1 := ⟨n - 1, by omega⟩
 have hnb := htk.nb
 have hun2 : rProg L (n + 1) es ns s = if s.k == 0 then
     (if s.is L wType then rProg L n (es ++ [(rEnum L s).1]) ns (rEnum L s).2
     else if s.is L wNode then rProg L n es (ns ++ [(rNode L (if ns.length == 64 then s.here L 3 else s)).1]) (rNode L (if ns.length == 64 then s.here L 3 else s)).2
     else ((es, ns), if (s.tk L).kind == 0 then s else s.here L 2)) else ((es, ns), s) := rfl
 cases h1 : (s.k == 0) with
 | false =>
  rw [h1, if_neg (by simp)] at hun2
  rw [hr, hun2] at hun
  simp only [h1, Bool.false_eq_true, ↓reduceIte] at hun
  have h1n : (s.k != 0) = true := by simp only [bne, h1]; rfl
  (repeat revert X); refine wE (And.intro tfPsR12 (And.intro f8 (And.intro hnb (And.intro h1 @rdB.eq_1)))) ?_; repeat intro X hX
  have hS : ∀ x : Subtype (fun m2 : M => m2.get (m.nb + 3) = some [.sl .no (L.map Tk.pv), .v (.int .i64 (s.i : Int)), .v (.int .i64 0), .v (.int .i64 s.k), .v (.int .i64 s.l), .v (.int .i64 s.c)]), x.1.get (m.nb + 3) = some [.sl .no (L.map Tk.pv), .v (.int .i64 (s.i : Int)), .v (.int .i64 0), .v (.int .i64 s.k), .v (.int .i64 s.l), .v (.int .i64 s.c)] := fun x => x.2
  refine aDrw (isBX (m.nb + 3) [.sl .no (L.map Tk.pv), .v (.int .i64 (s.i : Int)), .v (.int .i64 0), .v (.int .i64 s.k), .v (.int .i64 s.l), .v (.int .i64 s.c)]) (by kernel_rfl) (isBX_of (ext_get (i := 3) hnb)) ?_
  simp -implicitDefEqProofs only [↓slp, slb, ↓reduceIte, reduceCtorEq, jA, jB, jD, jE, jF, tfPsR12, f2, f4, f8, hnb, isBX_all, hS]
  refine ⟨isBX_of (ext_get (i := 3) hnb), isBX_of (ext_get (i := 3) hnb), ?_⟩
  (repeat revert X); refine wE aEQ_t ?_; repeat intro X hX
  refine wQ Tryz.results26 (And.intro tfPsR12 (And.intro f2 (And.intro f4 hnb))) ?_
  exact leave_toks htk rfl ⟨by rw [hun]; rfl, rfl⟩
 | true =>
  have k0 : s.k = 0 := by simpa using h1
  rw [h1, if_pos rfl] at hun2
  have n0 := mu0 hs k0
  (repeat revert X); refine wE (And.intro tfPsR12 (And.intro f8 (And.intro hnb (And.intro h1 @rdB.eq_1)))) ?_; repeat intro X hX
  refine callM (xis hL hnb hs wType) ?_
  rintro v m' ⟨rfl, rfl⟩
  cases h2 : s.is L wType with
  | true =>
   rw [h2, if_pos rfl] at hun2
   have b1 := enum_adv2 hL hs
   have n1 := mu_le b1
   have n2 := want_mu hL hs wType
   refine wS (And.intro @pB.eq_1 @rdB.eq_1) ?_
   (repeat revert X); refine wE aEQ_t ?_; repeat intro X hX
   have hS : ∀ x : Subtype (fun m2 : M => m2.get (m.nb + 4) = some [.sl oe (es.map En.pv), .sl on (ns.map No.pv)]), x.1.get (m.nb + 4) = some [.sl oe (es.map En.pv), .sl on (ns.map No.pv)] := fun x => x.2
   refine aDrwE (isBX (m.nb + 4) [.sl oe (es.map En.pv), .sl on (ns.map No.pv)]) (hne := List.cons_ne_nil _ _) rfl (by kernel_rfl) (by kernel_rfl) (isBX_of (ext_get (i := 4) hnb)) ?_
   simp -implicitDefEqProofs only [↓slp, slb, ↓reduceIte, reduceCtorEq, jA, jB, jF, tfPsR12, f8, f9, hnb, isBX_all, hS, List.dropLast_cons_cons, List.dropLast_singleton, List.getLast_cons_cons, List.getLast_singleton]
   refine callM (xenum hL hnb hs) ?_
   rintro v m' ⟨rfl, rfl⟩
   generalize rEnum L s = c at *
   refine ⟨isBX_of (ext_get (i := 4) hnb), ?_⟩
   have hfree := hoe.free
   have q1 : es.length + 1 ≤ maxLen := by unfold maxLen; omega
   have q2 : (es.length + 1) * 64 ≤ 140737488355328 := by omega
   have q3 : ∀ x ∈ es.map En.pv, x.cells.length = 4 := fun x hx => by
    obtain ⟨a, _, rfl⟩ := List.mem_map.1 hx; rfl
   refine wS (And.intro tfPsR12 (And.intro f9 (And.intro hnb @rdB.eq_1))) ?_
   (repeat ((apply And.intro; (focus (first | trivial | (repeat' apply And.intro) <;> first | omega | assumption | trivial)))))
   have ht1 := htk.use (s := 4) hoe
   refine ⟨isBX_of (ext_get (i := 4) ht1.nb), ?_⟩
   refine hW n _ _ (by omega) ?_
   rw [hI]
   exact ⟨es ++ [c.1], ns, c.2, .tok mm.nt, on, _, b1.ok, by omega, by simp; omega, by rw [hr, hun2], f2, f4, f8, f9, by rw [List.map_append]; rfl, ht1, Mine.new htk oe 4, Mine.other (o := oe) (s := 4) hon hne, hon.ne_new⟩
  | false =>
  rw [h2, if_neg (by simp)] at hun2
  refine wS (And.intro @pB.eq_1 @rdB.eq_1) ?_
  (repeat revert X); refine wE f8 ?_; repeat intro X hX
  refine callM (xis hL hnb hs wNode) ?_
  rintro v m' ⟨rfl, rfl⟩
  cases h3 : s.is L wNode with
  | true =>
   rw [h3, if_pos rfl] at hun2
   have hfree := hon.free
   have q1 : ns.length + 1 ≤ maxLen := by unfold maxLen; omega
   have q2 : (ns.length + 1) * 160 ≤ 140737488355328 := by omega
   have q3 : ∀ x ∈ ns.map No.pv, x.cells.length = 7 := fun x hx => by
    obtain ⟨a, _, rfl⟩ := List.mem_map.1 hx; rfl
   obtain ⟨c1, g1⟩ : ∃ b, (ns.length == 64) = b := ⟨_, rfl⟩
   have g1i : ((ns.length : Int) == 64) = c1 := by rw [← g1]; cases hq : (ns.length == 64) <;> simp at hq ⊢ <;> omega
   rw [g1] at hun2
   cases c1 with
   | true =>
    simp only [↓reduceIte] at hun2
    refine wS (And.intro @pB.eq_1 @rdB.eq_1) ?_
    (repeat revert X); refine wE (And.intro tfPsR12 (And.intro f8 (And.intro f9 (And.intro hnb g1i)))) ?_; repeat intro X hX
    refine callM (xhere hL hnb hs 3) ?_
    rintro v m' rfl
    refine wS @rdB.eq_1 ?_
    (repeat (apply hX; clear hX X))
    have b0 := here_adv hL hs 3
    have b1 := node_adv2 hL b0.ok
    have n1 := mu_le b1
    have n2 := want_mu hL b0.ok wNode
    have n3 := mu_le b0
    have hS : ∀ x : Subtype (fun m2 : M => m2.get (m.nb + 4) = some [.sl oe (es.map En.pv), .sl on (ns.map No.pv)]), x.1.get (m.nb + 4) = some [.sl oe (es.map En.pv), .sl on (ns.map No.pv)] := fun x => x.2
    refine aDrwE (isBX (m.nb + 4) [.sl oe (es.map En.pv), .sl on (ns.map No.pv)]) (hne := List.cons_ne_nil _ _) rfl (by kernel_rfl) (by kernel_rfl) (isBX_of (ext_get (i := 4) hnb)) ?_
    simp -implicitDefEqProofs only [↓slp, slb, ↓reduceIte, reduceCtorEq, jA, jB, jF, tfPsR12, f8, f9, hnb, isBX_all, hS, List.dropLast_cons_cons, List.dropLast_singleton, List.getLast_cons_cons, List.getLast_singleton]
    refine callM (xnode hL hnb b0.ok) ?_
    rintro v m' ⟨rfl, rfl⟩
    generalize rNode L (s.here L 3) = c at *
    refine ⟨isBX_of (ext_get (i := 4) hnb), ?_⟩
    refine wS (And.intro tfPsR12 (And.intro f9 (And.intro hnb @rdB.eq_1))) ?_
    (repeat ((apply And.intro; (focus (first | trivial | (repeat' apply And.intro) <;> first | omega | assumption | trivial)))))
    have ht1 := htk.use (s := 7) hon
    refine ⟨isBX_of (ext_get (i := 4) ht1.nb), ?_⟩
    refine hW n _ _ (by omega) ?_
    rw [hI]
    exact ⟨es, ns ++ [c.1], c.2, oe, .tok mm.nt, _, b1.ok, by omega, by simp; omega, by rw [hr, hun2], f2, f4, f8, f9, by rw [List.map_append]; rfl, ht1, Mine.other (o := on) (s := 7) hoe (fun t h1 h2 => hne t h2 h1), Mine.new htk on 7, fun t h1 h2 => hoe.ne_new t h2 h1⟩
   | false =>
    simp only [Bool.false_eq_true, ↓reduceIte] at hun2
    refine wS (And.intro @pB.eq_1 @rdB.eq_1) ?_
    (repeat revert X); refine wE (And.intro tfPsR12 (And.intro f9 (And.intro hnb g1i))) ?_; repeat intro X hX
    have b0 := Adv.refl hs
    have b1 := node_adv2 hL b0.ok
    have n1 := mu_le b1
    have n2 := want_mu hL b0.ok wNode
    have n3 := mu_le b0
    have hS : ∀ x : Subtype (fun m2 : M => m2.get (m.nb + 4) = some [.sl oe (es.map En.pv), .sl on (ns.map No.pv)]), x.1.get (m.nb + 4) = some [.sl oe (es.map En.pv), .sl on (ns.map No.pv)] := fun x => x.2
    refine aDrwE (isBX (m.nb + 4) [.sl oe (es.map En.pv), .sl on (ns.map No.pv)]) (hne := List.cons_ne_nil _ _) rfl (by kernel_rfl) (by kernel_rfl) (isBX_of (ext_get (i := 4) hnb)) ?_
    simp -implicitDefEqProofs only [↓slp, slb, ↓reduceIte, reduceCtorEq, jA, jB, jF, tfPsR12, f8, f9, hnb, isBX_all, hS, List.dropLast_cons_cons, List.dropLast_singleton, List.getLast_cons_cons, List.getLast_singleton]
    refine callM (xnode hL hnb b0.ok) ?_
    rintro v m' ⟨rfl, rfl⟩
    generalize rNode L (s) = c at *
    refine ⟨isBX_of (ext_get (i := 4) hnb), ?_⟩
    refine wS (And.intro tfPsR12 (And.intro f9 (And.intro hnb @rdB.eq_1))) ?_
    (repeat ((apply And.intro; (focus (first | trivial | (repeat' apply And.intro) <;> first | omega | assumption | trivial)))))
    have ht1 := htk.use (s := 7) hon
    refine ⟨isBX_of (ext_get (i := 4) ht1.nb), ?_⟩
    refine hW n _ _ (by omega) ?_
    rw [hI]
    exact ⟨es, ns ++ [c.1], c.2, oe, .tok mm.nt, _, b1.ok, by omega, by simp; omega, by rw [hr, hun2], f2, f4, f8, f9, by rw [List.map_append]; rfl, ht1, Mine.other (o := on) (s := 7) hoe (fun t h1 h2 => hne t h2 h1), Mine.new htk on 7, fun t h1 h2 => hoe.ne_new t h2 h1⟩
  | false =>
   rw [h3, if_neg (by simp)] at hun2
   rw [hr, hun2] at hun
   obtain ⟨c1, g1⟩ : ∃ b, ((s.tk L).kind == 0) = b := ⟨_, rfl⟩
   have g1n : ((s.tk L).kind != 0) = !c1 := by rw [← g1]; rfl
   simp only [g1] at hun
   refine wS (And.intro @pB.eq_1 @rdB.eq_1) ?_
   (repeat revert X); refine wE f8 ?_; repeat intro X hX
   refine callM (xtok hL hnb hs) ?_
   rintro v m' ⟨rfl, rfl⟩
   cases c1 with
   | true =>
    simp only [↓reduceIte, h1] at hun
    have h1n : (s.k != 0) = false := by simp only [bne, h1]; rfl
    refine wS (And.intro tfPsR12 @rdB.eq_1) ?_
    (repeat revert X); refine wE (And.intro tfPsR12 (And.intro f2 (And.intro f4 (And.intro f8 (And.intro f9 (And.intro hnb (And.intro g1 h1))))))) ?_; repeat intro X hX
    refine wQ Tryz.results26 (And.intro tfPsR12 (And.intro f2 (And.intro f4 hnb))) ?_
    exact leave_toks htk rfl ⟨by rw [hun]; rfl, rfl⟩
   | false =>
    simp only [Bool.false_eq_true, ↓reduceIte] at hun
    refine wS (And.intro tfPsR12 @rdB.eq_1) ?_
    (repeat revert X); refine wE (And.intro f8 g1) ?_; repeat intro X hX
    refine callM (xhere hL hnb hs 2) ?_
    rintro v m' rfl
    refine wS @rdB.eq_1 ?_
    have hkh : (s.here L 2).k ≠ 0 := fail_k (by decide)
    have h8 : ((s.here L 2).k == 0) = false := by simpa using hkh
    have h8n : ((s.here L 2).k != 0) = true := by simp only [bne, h8]; rfl
    simp only [h8, Bool.false_eq_true, ↓reduceIte] at hun
    generalize s.here L 2 = s9 at *
    (repeat revert X); refine wE (And.intro tfPsR12 (And.intro f8 (And.intro hnb h8))) ?_; repeat intro X hX
    have hS : ∀ x : Subtype (fun m2 : M => m2.get (m.nb + 3) = some [.sl .no (L.map Tk.pv), .v (.int .i64 (s9.i : Int)), .v (.int .i64 0), .v (.int .i64 s9.k), .v (.int .i64 s9.l), .v (.int .i64 s9.c)]), x.1.get (m.nb + 3) = some [.sl .no (L.map Tk.pv), .v (.int .i64 (s9.i : Int)), .v (.int .i64 0), .v (.int .i64 s9.k), .v (.int .i64 s9.l), .v (.int .i64 s9.c)] := fun x => x.2
    refine aDrw (isBX (m.nb + 3) [.sl .no (L.map Tk.pv), .v (.int .i64 (s9.i : Int)), .v (.int .i64 0), .v (.int .i64 s9.k), .v (.int .i64 s9.l), .v (.int .i64 s9.c)]) (by kernel_rfl) (isBX_of (ext_get (i := 3) hnb)) ?_
    simp -implicitDefEqProofs only [↓slp, slb, ↓reduceIte, reduceCtorEq, jA, jB, jD, jE, jF, tfPsR12, f2, f4, f8, hnb, isBX_all, hS]
    refine ⟨isBX_of (ext_get (i := 3) hnb), isBX_of (ext_get (i := 3) hnb), ?_⟩
    (repeat revert X); refine wE aEQ_t ?_; repeat intro X hX
    refine wQ Tryz.results26 (And.intro tfPsR12 (And.intro f2 (And.intro f4 hnb))) ?_
    exact leave_toks htk rfl ⟨by rw [hun]; rfl, rfl⟩

section
variable {L : List Tk} (hL : TksOk L) {m : M} {bs : List (Option (List PV))} {s : PS} (hs : s.ok L)
include hL hs
end
end Go.Proofs.YtohgdopfjkjppaaGreatDoor
