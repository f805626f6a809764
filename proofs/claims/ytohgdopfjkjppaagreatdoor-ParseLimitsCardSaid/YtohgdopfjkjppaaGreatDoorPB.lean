/-
 Texts that belong together: Pp5, Pp6, Pp7, AbFd.
-/
-- halved
import Derived.Test.YtohgdopfjkjppaaGreatDoorAbMac
import Derived.Test.YtohgdopfjkjppaaGreatDoorPp4
import Derived.Test.YtohgdopfjkjppaaGreatDoorRC
import Derived.Test.YtohgdopfjkjppaaGreatDoorRnA
set_option linter.unusedSectionVars false
set_option linter.unusedVariables false
set_option linter.unusedSimpArgs false
namespace Go.Proofs.YtohgdopfjkjppaaGreatDoor
open Nat renaming reduceEqDiff → jA, reduceAdd → jB, reduceMul → jC, reduceLT → jD, reduceLeDiff → jE, reduceBEq → jF, reduceBNe → jG
open Int renaming reduceLE → jH, reduceLT → jI, reduceToNat → jJ, reduceEq → jK
open Go
set_option maxRecDepth 20000
set_option linter.defProp false
def tfPp5 := tfPp1

def rCst (L : List Tk) (d : Int) (s : PS) : Ex × PS := ((rUnary L (fx L) d s).1, if (rUnary L (fx L) d s).2.k == 0 && !isCst (rUnary L (fx L) d s).1 then (rUnary L (fx L) d s).2.fail L 2 (rUnary L (fx L) d s).1.line (rUnary L (fx L) d s).1.col else (rUnary L (fx L) d s).2)
theorem first_cst (L : List Tk) (d : Int) (s : PS) : rFirst L d s = rCst L d (s.want L wEq) := rfl
theorem cst_adv {L : List Tk} (hL : TksOk L) {d : Int} {s : PS} (h : s.ok L) : Adv L s (rCst L d s).2 := by
 have h2 := (un_adv hL (d := d) h).1
 unfold rCst
 try simp only []
 split
 ·exact h2.trans (fail_adv hL h2.ok _ _ _)
 ·exact h2
section
variable {L : List Tk} (hL : TksOk L) (a : Nat) (m : M) (hA : a < m.nb) (s : PS) (hs : s.ok L) (k0 : s.k = 0) (d : Int)
include hL hA hs k0
set_option maxHeartbeats 2000000 in
theorem ptyp_any : ACallsZ Tryz.prog 131 [.bp a 0] (pst L a m s.i d) (fun v m' => (rTyp L s).2.k = 0 ∧ v = .ag [.v (.int .u8 (rTyp L s).1.kind), .v (.string (rTyp L s).1.name)] ∧ m' = pst L a m (rTyp L s).2.i d) (ZP L a m (rTyp L s).2) := by
 have hsk : ∀ (s : PS) w, s.skp L w = if s.is L w then s.nx else s := fun _ _ => rfl
 obtain ⟨r, hr⟩ : ∃ r, rTyp L s = r := ⟨_, rfl⟩
 have hun : r = if s.is L wBool then (⟨1, ⟨#[]⟩⟩, s.nx) else if s.is L wInt then (⟨2, ⟨#[]⟩⟩, s.nx) else (⟨3, (rName L 2 s).1⟩, (rName L 2 s).2) := by rw [← hr]; rfl
 rw [hr]
 refine eZ [2] Tryz.func131 ?_
 (repeat revert X); refine wE (And.intro tfPp5 hA) ?_; repeat intro X hX
 refine callM (pskip_any hL a _ xA s hs d k0 wBool) ?_
 rintro v m' ⟨rfl, rfl⟩
 rw [hsk]
 cases h1 : s.is L wBool with
 | true =>
  rw [h1, if_pos rfl] at hun
  rw [if_pos rfl]
  refine wS @pB.eq_1 ?_
  (repeat revert X); refine wE (And.intro tfPp5 hA) ?_; repeat intro X hX
  refine wQ Tryz.results131 (And.intro tfPp5 hA) ?_
  exact leave_pst hA (.refl m) rfl ⟨by rw [hun]; exact k0, by rw [hun]; rfl, by rw [hun]⟩
 | false =>
 rw [h1, if_neg (by simp)] at hun
 rw [if_neg (by simp)]
 refine wS @pB.eq_1 ?_
 (repeat revert X); refine wE aEQ_t ?_; repeat intro X hX
 refine callM (pskip_any hL a _ xA s hs d k0 wInt) ?_
 rintro v m' ⟨rfl, rfl⟩
 rw [hsk]
 cases h2 : s.is L wInt with
 | true =>
  rw [h2, if_pos rfl] at hun
  rw [if_pos rfl]
  refine wS @pB.eq_1 ?_
  (repeat revert X); refine wE (And.intro tfPp5 hA) ?_; repeat intro X hX
  refine wQ Tryz.results131 (And.intro tfPp5 hA) ?_
  exact leave_pst hA (.refl m) rfl ⟨by rw [hun]; exact k0, by rw [hun]; rfl, by rw [hun]⟩
 | false =>
 rw [h2, if_neg (by simp)] at hun
 rw [if_neg (by simp)]
 have a1 := name_adv hL hs (kd := 2) (by decide)
 refine wS @pB.eq_1 ?_
 (repeat revert X); refine wE aEQ_t ?_; repeat intro X hX
 refine callP (pname_any hL a _ xA s hs d k0 2) (by first | exact zz hA (.refl m) ((by rw [hun]; exact .refl a1.ok)) | exact zz0 hA (.refl m) ((by rw [hun]; exact .refl a1.ok))) ?_
 rintro v m' ⟨k1, rfl, rfl⟩
 refine wS (And.intro tfPp5 hA) ?_
 (repeat revert X); refine wE aEQ_t ?_; repeat intro X hX
 refine wQ Tryz.results131 (And.intro tfPp5 hA) ?_
 exact leave_pst hA (.refl m) rfl ⟨by rw [hun]; exact k1, by rw [hun]; rfl, by rw [hun]⟩
set_option maxHeartbeats 2000000 in
theorem pconstant_any (hd : 0 ≤ d ∧ d ≤ 64) : ACallsZ Tryz.prog 132 [.bp a 0] (pst L a m s.i d) (RP L a m d (rCst L d s).1.pv (rCst L d s).2) (ZP L a m (rCst L d s).2) := by
 obtain ⟨r, hr⟩ : ∃ r, rCst L d s = r := ⟨_, rfl⟩
 have hun : r = ((rUnary L (fx L) d s).1, if (rUnary L (fx L) d s).2.k == 0 && !isCst (rUnary L (fx L) d s).1 then (rUnary L (fx L) d s).2.fail L 2 (rUnary L (fx L) d s).1.line (rUnary L (fx L) d s).1.col else (rUnary L (fx L) d s).2) := by rw [← hr]; rfl
 rw [hr]
 have a1 := (un_adv hL (d := d) hs).1
 have e1 : Adv L (rUnary L (fx L) d s).2 r.2 := by
  rw [hun]
  try simp only []
  split
  ·exact fail_adv hL a1.ok _ _ _
  ·exact .refl a1.ok
 refine eZ [2] Tryz.func132 ?_
 (repeat revert X); refine wE (And.intro tfPp5 hA) ?_; repeat intro X hX
 refine callP (punX_any hL a _ xA s hs k0 d hd) (by first | exact zz hA (.refl m) (e1) | exact zz0 hA (.refl m) (e1)) ?_
 rintro v m' ⟨k1, rfl, rfl⟩
 generalize rUnary L (fx L) d s = e at *
 refine wS tfPp5 ?_
 (repeat revert X); refine wE tfPp5 ?_; repeat intro X hX
 refine callM (pconst_any e.1 _) ?_
 rintro v m' ⟨rfl, rfl⟩
 rw [k1] at hun
 cases h3 : isCst e.1 with
 | true =>
  rw [h3, if_neg (by simp)] at hun
  refine wS (And.intro tfPp5 @pB.eq_1) ?_
  (repeat revert X); refine wE (And.intro tfPp5 hA) ?_; repeat intro X hX
  refine wQ Tryz.results132 (And.intro tfPp5 hA) ?_
  exact leave_pstE hA (.refl m) ⟨by rw [hun]; exact k1, by rw [hun], by rw [hun]⟩
 | false =>
  rw [h3, if_pos (by rfl)] at hun
  have hu := Tryz.underlying77
  have hfe : e.1.cs = [.v (.int .u8 e.1.kind), .v (.int .u8 e.1.op), .v (.int .i32 e.1.n), .v (.string e.1.name), .sl .no (e.1.names.map pS), .sl .no (e.1.kids.map Ex.pv), .v (.int .i64 e.1.line), .v (.int .i64 e.1.col)] := rfl
  refine wS (And.intro tfPp5 @pB.eq_1) ?_
  (repeat revert X); refine wE tfPp5 ?_; repeat intro X hX
  refine callM (pfault_any 2 e.1.line e.1.col rfl _) ?_
  rintro v m' ⟨rfl, rfl⟩
  refine wS (And.intro tfPp5 hu) ?_
  (repeat revert X); refine wE (And.intro tfPp5 (And.intro hA hu)) ?_; repeat intro X hX
  have hf3 : r.2 = ⟨L.length - 1, 2, e.1.line, e.1.col⟩ := by rw [hun]; exact fail0 k1
  rw [hf3]
  exact leave_pst hA (.refl m) rfl ⟨(fun h => by cases h), rfl, _, _, rfl⟩
end
set_option maxHeartbeats 16000000 in
theorem pvar_any {L : List Tk} (hL : TksOk L) (a : Nat) (m : M) (hA : a < m.nb) (s : PS) (hs : s.ok L) (k0 : s.k = 0) (d : Int) (hd : 0 ≤ d ∧ d ≤ 64) : ACallsZ Tryz.prog 116 [.bp a 0] (pst L a m s.i d) (RP L a m d (rVar L d s).1.pv (rVar L d s).2) (ZP L a m (rVar L d s).2) := by
 have hsk : ∀ (s : PS) w, s.skp L w = if s.is L w then s.nx else s := fun _ _ => rfl
 have a1 : Adv L s (s.skp L wLast) := skp_adv hL hs wLast
 have a2 := name_adv hL a1.ok (kd := 2) (by decide)
 have a3 := want_adv hL a2.ok wColon
 have a4 := typ_adv hL a3.ok
 have a5 := cks_adv hL L.length [] _ a4.ok
 obtain ⟨b, hb⟩ : ∃ b, s.is L wLast = b := ⟨_, rfl⟩
 have k1 : (s.skp L wLast).k = 0 := by rw [hsk]; split <;> exact k0
 obtain ⟨t, ht⟩ : ∃ t, (s.skp L wLast).tk L = t := ⟨_, rfl⟩
 obtain ⟨nm, hnm⟩ : ∃ n, rName L 2 (s.skp L wLast) = n := ⟨_, rfl⟩
 obtain ⟨r, hr0⟩ : ∃ r, rVar L d s = r := ⟨_, rfl⟩
 have hun : r = (if b then (⟨nm.1, (rTyp L (nm.2.want L wColon)).1, (rCks L L.length [] (rTyp L (nm.2.want L wColon)).2).1, true, (rFirst L d (rCks L L.length [] (rTyp L (nm.2.want L wColon)).2).2).1, t.line, t.col⟩, (rFirst L d (rCks L L.length [] (rTyp L (nm.2.want L wColon)).2).2).2) else (⟨nm.1, (rTyp L (nm.2.want L wColon)).1, (rCks L L.length [] (rTyp L (nm.2.want L wColon)).2).1, false, z0, t.line, t.col⟩, (rCks L L.length [] (rTyp L (nm.2.want L wColon)).2).2)) := by rw [← hr0, ← hb, ← ht, ← hnm]; rfl
 rw [hnm] at a2 a3 a4 a5
 rw [hr0]
 have e5 : Adv L (rCks L L.length [] (rTyp L (nm.2.want L wColon)).2).2 r.2 := by
  rw [hun]
  split
  ·exact first_adv hL a5.ok
  ·exact .refl a5.ok
 have e4 := a5.trans e5
 have e3 := a4.trans e4
 have e2 := a3.trans e3
 refine eZ [2, 4] Tryz.func116 ?_
 (repeat revert X); refine wE (And.intro tfPp5 hA) ?_; repeat intro X hX
 refine callM (pskip_any hL a _ xA s hs d k0 wLast) ?_
 rintro v m' ⟨rfl, rfl⟩
 rw [hb]
 refine wS @pB.eq_1 ?_
 (repeat revert X); refine wE aEQ_t ?_; repeat intro X hX
 refine callM (ptok_any hL a _ xA _ a1.ok d) ?_
 rintro v m' ⟨rfl, rfl⟩
 rw [ht]
 refine wS tfPp5 ?_
 (repeat revert X); refine wE (And.intro tfPp5 hA) ?_; repeat intro X hX
 refine callP (pname_any hL a _ xA _ a1.ok d k1 2) (by rw [hnm]; exact (by first | exact zz hA (.refl m) (e2) | exact zz0 hA (.refl m) (e2))) ?_
 rintro v m' ⟨k2, rfl, rfl⟩
 rw [hnm] at k2 ⊢
 refine wS (And.intro tfPp5 hA) ?_
 (repeat revert X); refine wE aEQ_t ?_; repeat intro X hX
 refine callP (pwant_any hL a _ xA _ a2.ok d k2 wColon) (by first | exact zz hA (.refl m) (e3) | exact zz0 hA (.refl m) (e3)) ?_
 rintro v m' ⟨k3, rfl⟩
 refine wS aEQ_t ?_
 (repeat revert X); refine wE aEQ_t ?_; repeat intro X hX
 refine callP (ptyp_any hL a _ xA _ a3.ok k3 d) (by first | exact zz hA (.refl m) (e4) | exact zz0 hA (.refl m) (e4)) ?_
 rintro v m' ⟨k4, rfl, rfl⟩
 clear ht hnm a1
 generalize hs3 : nm.2.want L wColon = s3 at *
 obtain ⟨y, hy⟩ : ∃ y, rTyp L s3 = y := ⟨_, rfl⟩
 rw [hy] at hun a4 a5 e4 e5 k4 ⊢
 refine wS (And.intro tfPp5 hA) ?_
 (repeat revert X); refine wE aEQ_t ?_; repeat intro X hX
 obtain ⟨q, hq⟩ : ∃ q, rCks L L.length [] y.2 = q := ⟨_, rfl⟩
 rw [hq] at hun e5
 obtain ⟨I, hI⟩ : ∃ I : Nat → F → M → Prop, ∀ n g m', I n g m' = (∃ (l : List On) (s5 : PS) (o : Own) (mm : M), s5.ok L ∧ s5.k = 0 ∧ L.length - s5.i ≤ n ∧ l.length + n ≤ L.length ∧ q = rCks L n l s5 ∧ g 0 = .bp a 0 ∧ g 2 = .bp m.nb 0 ∧ g 3 = .v (.bool b) ∧ g 4 = .bp (m.nb + 1) 0 ∧ m' = pst L a (mm.ext [some [.v (.string ⟨#[]⟩), .v (.int .u8 0), .v (.string ⟨#[]⟩), .sl .full [], .v (.bool false), .v (.int .u8 0), .v (.int .u8 0), .v (.int .i32 0), .v (.string ⟨#[]⟩), .sl .full [], .sl .full [], .v (.int .i64 0), .v (.int .i64 0), .v (.int .i64 0), .v (.int .i64 0)], some [.v (.string nm.1), .v (.int .u8 y.1.kind), .v (.string y.1.name), .sl o (l.map On.pv), .v (.bool b), .v (.int .u8 0), .v (.int .u8 0), .v (.int .i32 0), .v (.string ⟨#[]⟩), .sl .full [], .sl .full [], .v (.int .i64 0), .v (.int .i64 0), .v (.int .i64 t.line), .v (.int .i64 t.col)]]) s5.i d ∧ Toks m mm ∧ Mine m mm o 2) := ⟨_, fun _ _ _ => rfl⟩
 refine aLoopN I L.length ?_ ?_
 ·rw [hI]; exact ⟨[], y.2, .full, m, a4.ok, k4, by omega, by simp, hq.symm, rfl, rfl, rfl, rfl, rfl, .refl m, .full⟩
 clear hq
 intro W n g m' hrel hW
 rw [hI] at hrel
 obtain ⟨l, s5, o, mm, hs5, k5, hn, hln, hr, f0, f2, f3, f4, rfl, htk, ho⟩ := hrel
 have hlt := hs5.lt
 obtain ⟨n, rfl⟩ : ∃ k, n = k + 1 := ⟨n - 1, by omega⟩
 have hnb := htk.nb
 have hAm : a < mm.nb := by omega
 have hun2 : rCks L (n + 1) l s5 = if s5.is L wWhen then rCks L n (l ++ [(rOn L s5.nx).1]) (rOn L s5.nx).2 else (l, s5) := rfl
 (repeat revert X); refine wE f0 ?_; repeat intro X hX
 refine callM (pskip_any hL a _ xA s5 hs5 d k5 wWhen) ?_
 rintro v m' ⟨rfl, rfl⟩
 rw [hsk]
 cases h6 : s5.is L wWhen with
 | true =>
  have b1 := is_adv hL hs5 h6
  have b2 := on_adv hL b1.ok
  have hle := b2.le
  have hll := hL.le
  rw [h6, if_pos rfl] at hun2
  rw [if_pos rfl]
  have e6 : Adv L (rOn L s5.nx).2 r.2 := by
   refine Adv.trans (s' := q.2) ?_ e5
   rw [hr, hun2]
   exact cks_adv hL _ _ _ b2.ok
  refine wS @pB.eq_1 ?_
  (repeat revert X); refine wE aEQ_t ?_; repeat intro X hX
  refine aDrwEZ 3 (isP1 L a m [.v (.string nm.1), .v (.int .u8 y.1.kind), .v (.string y.1.name), .sl o (l.map On.pv), .v (.bool b), .v (.int .u8 0), .v (.int .u8 0), .v (.int .i32 0), .v (.string ⟨#[]⟩), .sl .full [], .sl .full [], .v (.int .i64 0), .v (.int .i64 0), .v (.int .i64 t.line), .v (.int .i64 t.col)] d) (by decide) (hne := List.cons_ne_nil _ _) rfl (by kernel_rfl) rfl rfl (by kernel_rfl) (by kernel_rfl) (isP1_of htk.boxes) ?_
  simp -implicitDefEqProofs only [↓slp, slb, ↓reduceIte, reduceCtorEq, jA, jB, jC, jD, jE, jF, tfPp5, isP1_all, List.dropLast_cons_cons, List.dropLast_singleton, List.getLast_cons_cons, List.getLast_singleton, List.getElem_cons_zero, List.getElem_cons_succ, f0, f4, hnb, hA, pst_gx1]
  refine callP (pon_any hL a _ xA s5.nx b1.ok k5 d) (by first | exact zz hA (htk) (e6) | exact zz0 hA (htk) (e6)) ?_
  rintro v m' ⟨k6, rfl, rfl⟩
  generalize rOn L s5.nx = c at *
  refine ⟨isP1_of htk.boxes, ?_⟩
  have hfree := ho.free
  have q1 : l.length + 1 ≤ maxLen := by unfold maxLen; omega
  have q2 : (l.length + 1) * 32 ≤ 140737488355328 := by omega
  have q3 := ons_one2 l
  refine wS (And.intro tfPp5 (And.intro f4 (And.intro hnb hA))) ?_
  (repeat ((apply And.intro; (focus (trivial)))))
  have ht1 := htk.use (s := 2) ho
  have ho1 := Mine.new htk o 2
  refine ⟨isP1_of ht1.boxes, ?_⟩
  have hnb1 := ht1.nb
  have hA1 : a < ((o.use mm).fresh 2).nb := by omega
  generalize (o.use mm).fresh 2 = m1 at *
  generalize Own.tok mm.nt = o1 at *
  clear htk ho hnb hAm
  (repeat revert X); refine wE (And.intro tfPp5 (And.intro f0 (And.intro f2 (And.intro f3 (And.intro f4 (And.intro hnb1 (And.intro hA1 hA))))))) ?_; repeat intro X hX
  refine hW n _ _ (by omega) ?_
  rw [hI]
  exact ⟨l ++ [c.1], c.2, o1, m1, b2.ok, k6, by have : s5.nx.i = s5.i + 1 := rfl; omega, by simp; omega, by rw [hr, hun2], f0, f2, f3, f4, by rw [List.map_append]; rfl, ht1, ho1⟩
 | false =>
  rw [h6, if_neg (by simp)] at hun2
  rw [if_neg (by simp)]
  have hq2 : q = (l, s5) := by rw [hr, hun2]
  rw [hq2] at hun e5
  cases b with
  | false =>
   rw [if_neg (by simp)] at hun
   refine wS @pB.eq_1 ?_
   (repeat revert X); refine wE (And.intro tfPp5 (And.intro f2 (And.intro f3 (And.intro f4 (And.intro hnb hA))))) ?_; repeat intro X hX
   refine wQ Tryz.results116 (And.intro tfPp5 (And.intro f2 (And.intro hnb hA))) ?_
   exact leave_pst hA htk rfl ⟨by rw [hun]; exact k5, by rw [hun]; rfl, by rw [hun]⟩
  | true =>
   rw [if_pos rfl, first_cst] at hun
   have b1 := want_adv hL hs5 wEq
   have b2 := cst_adv hL (d := d) b1.ok
   have e7 : Adv L (rCst L d (s5.want L wEq)).2 r.2 := by rw [hun]; exact .refl b2.ok
   have e6 := b2.trans e7
   refine wS @pB.eq_1 ?_
   (repeat revert X); refine wE (And.intro f0 f3) ?_; repeat intro X hX
   refine callP (pwant_any hL a _ xA s5 hs5 d k5 wEq) (by first | exact zz hA (htk) (e6) | exact zz0 hA (htk) (e6)) ?_
   rintro v m' ⟨k6, rfl⟩
   refine wS aEQ_t ?_
   (repeat revert X); refine wE f0 ?_; repeat intro X hX
   refine callP (pconstant_any hL a _ xA _ b1.ok k6 d hd) (by first | exact zz hA (htk) (e7) | exact zz0 hA (htk) (e7)) ?_
   rintro v m' ⟨k7, rfl, rfl⟩
   generalize rCst L d (s5.want L wEq) = e at *
   rw [show e.1.pv = .ag [.v (.int .u8 e.1.kind), .v (.int .u8 e.1.op), .v (.int .i32 e.1.n), .v (.string e.1.name), .sl .no (e.1.names.map pS), .sl .no (e.1.kids.map Ex.pv), .v (.int .i64 e.1.line), .v (.int .i64 e.1.col)] from Ex.pv_eq e.1]
   refine wS (And.intro tfPp5 (And.intro f4 (And.intro hnb hA))) ?_
   (repeat revert X); refine wE (And.intro tfPp5 (And.intro f2 (And.intro f4 (And.intro hnb hA)))) ?_; repeat intro X hX
   refine wQ Tryz.results116 (And.intro tfPp5 (And.intro f2 (And.intro hnb hA))) ?_
   exact leave_pst hA htk rfl ⟨by rw [hun]; exact k7, by rw [hun]; rfl, by rw [hun]⟩

def tfPp6 := And.intro @tfA (And.intro @Ex.settle_pv (And.intro @Ex.pure_pv (And.intro @Ex.cells_pv (And.intro @Ex.cs.eq_1 (And.intro @On.pv.eq_1 (And.intro @Ty.pv.eq_1 (And.intro @Va.settle_pv (And.intro @Va.pure_pv (And.intro @Va.cells_pv (And.intro @Va.cs.eq_1 (And.intro @Tk.settle_pv (And.intro @Tk.pure_pv (And.intro @Tk.cells_pv (And.intro @Tk.pv.eq_1 (And.intro @Tk.cs.eq_1 (And.intro @Tr.settle_pv (And.intro @Tr.pure_pv (And.intro @Tr.cells_pv (And.intro @Tr.cs.eq_1 (And.intro @pst_nb (And.intro @pst_nt (And.intro @pst_fresh (And.intro @pst_use (And.intro @pst_free (And.intro @pst_alive (And.intro @pst_a (And.intro @pst_upda (And.intro @pst_ext (And.intro @pst_ext2 (And.intro @pst_ea (And.intro @pst_own (And.intro @pst_own0 (And.intro @pst_ou @pst_ou0)))))))))))))))))))))))))))))))))

section
variable {L : List Tk} (hL : TksOk L) (a : Nat) (m : M) (hA : a < m.nb) (s : PS) (hs : s.ok L) (k0 : s.k = 0) (d : Int) (hd : 0 ≤ d ∧ d ≤ 64)
include hL hA hs k0 hd
set_option maxHeartbeats 8000000 in
theorem pparams_any : ACallsZ Tryz.prog 98 [.bp a 0] (pst L a m s.i d) (RP L a m d (.sl .no ((rParams L d s).1.map Va.pv)) (rParams L d s).2) (ZP L a m (rParams L d s).2) := by
 have hsk : ∀ (s : PS) w, s.skp L w = if s.is L w then s.nx else s := fun _ _ => rfl
 obtain ⟨r, hr0⟩ : ∃ r, rParams L d s = r := ⟨_, rfl⟩
 rw [hr0]
 refine eZ [3] Tryz.func98 ?_
 (repeat revert X); refine wE tfPp6 ?_; repeat intro X hX
 refine callM (pis_any hL a _ xA s hs d k0 wShut) ?_
 rintro v m' ⟨rfl, rfl⟩
 cases h0 : s.is L wShut with
 | true =>
  have hun : r = ([], s) := by rw [← hr0]; unfold rParams; rw [if_pos h0]
  refine wS @pB.eq_1 ?_
  (repeat revert X); refine wE tfPp6 ?_; repeat intro X hX
  refine wQ Tryz.results98 aEQ_t ?_
  exact leave_pst0 hA (.refl m) rfl ⟨by rw [hun]; exact k0, by rw [hun]; rfl, by rw [hun]⟩
 | false =>
 have hun : r = rParL L (L.length + 1) d [] s := by rw [← hr0]; unfold rParams; rw [if_neg (by simp [h0])]
 have hmx := mu_fx (L := L) (s := s)
 have hll := hL.le
 refine wS @pB.eq_1 ?_
 (repeat revert X); refine wE aEQ_t ?_; repeat intro X hX
 obtain ⟨I, hI⟩ : ∃ I : Nat → F → M → Prop, ∀ n g m', I n g m' = (∃ (l : List Va) (s1 : PS) (o : Own) (mm : M), s1.ok L ∧ s1.k = 0 ∧ mu L s1 + 16 ≤ 16 * n ∧ l.length + n ≤ L.length + 1 ∧ r = rParL L n d l s1 ∧ g 0 = .bp a 0 ∧ g 3 = .sl o (l.map Va.pv) ∧ m' = pst L a mm s1.i d ∧ Toks m mm ∧ Mine m mm o 15) := ⟨_, fun _ _ _ => rfl⟩
 refine aLoopN I (L.length + 1) ?_ ?_
 ·rw [hI]; exact ⟨[], s, .full, m, hs, k0, by omega, by simp, hun, rfl, rfl, rfl, .refl m, .full⟩
 clear hun hr0
 intro W n g m' hrel hW
 rw [hI] at hrel
 obtain ⟨l, s1, o, mm, hs1, k1, hn, hln, hr, f0, f3, rfl, htk, ho⟩ := hrel
 obtain ⟨n, rfl⟩ : ∃ k, n = k + 1 := ⟨n - 1, by omega⟩
 have hnb := htk.nb
 have hAm : a < mm.nb := by omega
 have hun2 : rParL L (n + 1) d l s1 = if s1.k == 0 then (if (rVar L d s1).2.is L wSemi then rParL L n d (l ++ [(rVar L d s1).1]) (rVar L d s1).2.nx else (l ++ [(rVar L d s1).1], (rVar L d s1).2)) else (l, s1) := rfl
 have h1 : (s1.k == 0) = true := by rw [k1]; rfl
 rw [h1, if_pos rfl] at hun2
 have b1 := var_adv hL (d := d) hs1
 have hfree := ho.free
 have q1 : l.length + 1 ≤ maxLen := by unfold maxLen; omega
 have q2 : (l.length + 1) * 176 ≤ 140737488355328 := by omega
 have q3 := vas_one15 l
 have n0 := mu0 hs1 k1
 have n1 := mu_le b1
 have e1 : Adv L (rVar L d s1).2 r.2 := by
  rw [hr, hun2]
  split
  ·rename_i hi
   have b2 := is_adv hL b1.ok hi
   exact b2.trans (parL_adv hL _ _ _ _ b2.ok)
  ·exact .refl b1.ok
 (repeat revert X); refine wE (And.intro f0 f3) ?_; repeat intro X hX
 refine callP (pvar_any hL a _ xA s1 hs1 k1 d hd) (by first | exact zz hA (htk) (e1) | exact zz0 hA (htk) (e1)) ?_
 rintro v m' ⟨k2, rfl, rfl⟩
 generalize rVar L d s1 = c at *
 refine wS tfPp6 ?_
 (repeat (first | refine aSeq fun X hX => ?_ | refine aReg ?_; simp -implicitDefEqProofs only [↓slp, slb, ↓reduceIte, reduceCtorEq, jF, f0] | apply hX; clear hX X | apply And.intro; focus ((repeat' apply And.intro) <;> first | omega | assumption)))
 have ht1 := htk.use (s := 15) ho
 have ho1 := Mine.new htk o 15
 have hnb1 := ht1.nb
 have hA1 : a < ((o.use mm).fresh 15).nb := by omega
 generalize (o.use mm).fresh 15 = m1 at *
 generalize Own.tok mm.nt = o1 at *
 clear htk ho hnb hAm
 refine callM (pskip_any hL a _ (by first | assumption | (rw [ext_nb]; omega)) _ b1.ok d k2 wSemi) ?_
 rintro v m' ⟨rfl, rfl⟩
 rw [hsk]
 cases h2 : c.2.is L wSemi with
 | true =>
  rw [h2, if_pos rfl] at hun2
  rw [if_pos rfl]
  have b2 := is_adv hL b1.ok h2
  have n2 := mu_nx hL b1.ok (is_of h2).1 (is_of h2).2.1
  refine wS @pB.eq_1 ?_
  (repeat revert X); refine wE aEQ_t ?_; repeat intro X hX
  refine hW n _ _ (by omega) ?_
  rw [hI]
  exact ⟨l ++ [c.1], c.2.nx, o1, m1, b2.ok, k2, by omega, by simp; omega, by rw [hr, hun2], f0, by rw [List.map_append]; rfl, rfl, ht1, ho1⟩
 | false =>
  rw [h2, if_neg (by simp)] at hun2
  rw [if_neg (by simp)]
  refine wS @pB.eq_1 ?_
  (repeat revert X); refine wE aEQ_t ?_; repeat intro X hX
  refine wQ Tryz.results98 aEQ_t ?_
  exact leave_pst0 hA ht1 rfl ⟨by rw [hr, hun2]; exact k2, by rw [hr, hun2, List.map_append]; rfl, by rw [hr, hun2]⟩
set_option maxHeartbeats 8000000 in
theorem plocals_any : ACallsZ Tryz.prog 99 [.bp a 0] (pst L a m s.i d) (RP L a m d (.sl .no ((rLocals L d s).1.map Va.pv)) (rLocals L d s).2) (ZP L a m (rLocals L d s).2) := by
 have hsk : ∀ (s : PS) w, s.skp L w = if s.is L w then s.nx else s := fun _ _ => rfl
 obtain ⟨r, hr0⟩ : ∃ r, rLocals L d s = r := ⟨_, rfl⟩
 rw [hr0]
 refine eZ [3] Tryz.func99 ?_
 (repeat revert X); refine wE tfPp6 ?_; repeat intro X hX
 refine callM (pskip_any hL a _ xA s hs d k0 wVar) ?_
 rintro v m' ⟨rfl, rfl⟩
 rw [hsk]
 cases h0 : s.is L wVar with
 | false =>
  have hun : r = ([], s) := by rw [← hr0]; unfold rLocals; rw [if_neg (by simp [h0])]
  rw [if_neg (by simp)]
  refine wS @pB.eq_1 ?_
  (repeat revert X); refine wE tfPp6 ?_; repeat intro X hX
  refine wQ Tryz.results99 aEQ_t ?_
  exact leave_pst0 hA (.refl m) rfl ⟨by rw [hun]; exact k0, by rw [hun]; rfl, by rw [hun]⟩
 | true =>
 have hun : r = rLocL L (L.length + 1) d [] s.nx := by rw [← hr0]; unfold rLocals; rw [if_pos h0]
 have a1 := is_adv hL hs h0
 have hmx := mu_fx (L := L) (s := s.nx)
 have hll := hL.le
 rw [if_pos rfl]
 refine wS @pB.eq_1 ?_
 (repeat revert X); refine wE tfPp6 ?_; repeat intro X hX
 obtain ⟨I, hI⟩ : ∃ I : Nat → F → M → Prop, ∀ n g m', I n g m' = (∃ (l : List Va) (s1 : PS) (o : Own) (mm : M), s1.ok L ∧ s1.k = 0 ∧ mu L s1 + 16 ≤ 16 * n ∧ l.length + n ≤ L.length + 1 ∧ r = rLocL L n d l s1 ∧ g 0 = .bp a 0 ∧ g 3 = .sl o (l.map Va.pv) ∧ m' = pst L a mm s1.i d ∧ Toks m mm ∧ Mine m mm o 15) := ⟨_, fun _ _ _ => rfl⟩
 refine aLoopN I (L.length + 1) ?_ ?_
 ·rw [hI]; exact ⟨[], s.nx, .full, m, a1.ok, k0, by omega, by simp, hun, rfl, rfl, rfl, .refl m, .full⟩
 clear hun hr0
 intro W n g m' hrel hW
 rw [hI] at hrel
 obtain ⟨l, s1, o, mm, hs1, k1, hn, hln, hr, f0, f3, rfl, htk, ho⟩ := hrel
 obtain ⟨n, rfl⟩ : ∃ k, n = k + 1 := ⟨n - 1, by omega⟩
 have hnb := htk.nb
 have hAm : a < mm.nb := by omega
 have hun2 : rLocL L (n + 1) d l s1 = if s1.k == 0 then (if !((((rVar L d s1).2.want L wSemi).tk L).kind == 2) && !((rVar L d s1).2.want L wSemi).is L wLast then (l ++ [(rVar L d s1).1], (rVar L d s1).2.want L wSemi) else rLocL L n d (l ++ [(rVar L d s1).1]) ((rVar L d s1).2.want L wSemi)) else (l, s1) := rfl
 have h1 : (s1.k == 0) = true := by rw [k1]; rfl
 rw [h1, if_pos rfl] at hun2
 have b1 := var_adv hL (d := d) hs1
 have hfree := ho.free
 have q1 : l.length + 1 ≤ maxLen := by unfold maxLen; omega
 have q2 : (l.length + 1) * 176 ≤ 140737488355328 := by omega
 have q3 := vas_one15 l
 have n0 := mu0 hs1 k1
 have n1 := mu_le b1
 have b2 := want_adv hL b1.ok wSemi
 have n2 := want_mu hL b1.ok wSemi
 have e2 : Adv L ((rVar L d s1).2.want L wSemi) r.2 := by
  rw [hr, hun2]
  split
  ·exact .refl b2.ok
  ·exact locL_adv hL _ _ _ _ b2.ok
 have e1 := b2.trans e2
 (repeat revert X); refine wE (And.intro f0 f3) ?_; repeat intro X hX
 refine callP (pvar_any hL a _ xA s1 hs1 k1 d hd) (by first | exact zz hA (htk) (e1) | exact zz0 hA (htk) (e1)) ?_
 rintro v m' ⟨k2, rfl, rfl⟩
 generalize rVar L d s1 = c at *
 refine wS tfPp6 ?_
 (repeat (first | refine aSeq fun X hX => ?_ | refine aReg ?_; simp -implicitDefEqProofs only [↓slp, slb, ↓reduceIte, reduceCtorEq, jF, f0] | apply hX; clear hX X | apply And.intro; focus ((repeat' apply And.intro) <;> first | omega | assumption)))
 have ht1 := htk.use (s := 15) ho
 have ho1 := Mine.new htk o 15
 have hnb1 := ht1.nb
 have hA1 : a < ((o.use mm).fresh 15).nb := by omega
 generalize (o.use mm).fresh 15 = m1 at *
 generalize Own.tok mm.nt = o1 at *
 clear htk ho hnb hAm
 refine callP (pwant_any hL a _ (by first | assumption | (rw [ext_nb]; omega)) _ b1.ok d k2 wSemi) (by first | exact zz hA (ht1) (e2) | exact zz0 hA (ht1) (e2)) ?_
 rintro v m' ⟨k3, rfl⟩
 refine wS aEQ_t ?_
 (repeat revert X); refine wE f0 ?_; repeat intro X hX
 refine callM (ptok_any hL a _ xA _ b2.ok d) ?_
 rintro v m' ⟨rfl, rfl⟩
 generalize c.2.want L wSemi = s2 at *
 obtain ⟨c2, g2⟩ : ∃ b, ((s2.tk L).kind == 2) = b := ⟨_, rfl⟩
 have g2n : ((s2.tk L).kind != 2) = !c2 := by rw [← g2]; rfl
 rw [g2] at hun2
 refine wS tfPp6 ?_
 cases c2 with
 | true =>
  rw [Bool.not_true, Bool.false_and, if_neg (by simp)] at hun2
  (repeat revert X); refine wE (And.intro tfPp6 g2) ?_; repeat intro X hX
  refine hW n _ _ (by omega) ?_
  rw [hI]
  exact ⟨l ++ [c.1], s2, o1, m1, b2.ok, k3, by omega, by simp; omega, by rw [hr, hun2], f0, by rw [List.map_append]; rfl, rfl, ht1, ho1⟩
 | false =>
  rw [Bool.not_false, Bool.true_and] at hun2
  (repeat revert X); refine wE (And.intro tfPp6 (And.intro f0 g2)) ?_; repeat intro X hX
  refine callM (pis_any hL a _ xA s2 b2.ok d k3 wLast) ?_
  rintro v m' ⟨rfl, rfl⟩
  cases h3 : s2.is L wLast with
  | true =>
   rw [h3, if_neg (by simp)] at hun2
   refine wS @pB.eq_1 ?_
   (repeat revert X); refine wE aEQ_t ?_; repeat intro X hX
   refine hW n _ _ (by omega) ?_
   rw [hI]
   exact ⟨l ++ [c.1], s2, o1, m1, b2.ok, k3, by omega, by simp; omega, by rw [hr, hun2], f0, by rw [List.map_append]; rfl, rfl, ht1, ho1⟩
  | false =>
   rw [h3, if_pos (by rfl)] at hun2
   refine wS @pB.eq_1 ?_
   (repeat revert X); refine wE aEQ_t ?_; repeat intro X hX
   refine wQ Tryz.results99 aEQ_t ?_
   exact leave_pst0 hA ht1 rfl ⟨by rw [hr, hun2]; exact k3, by rw [hr, hun2, List.map_append]; rfl, by rw [hr, hun2]⟩
omit hd in
set_option maxHeartbeats 8000000 in
theorem plhs_any : ACallsZ Tryz.prog 135 [.bp a 0] (pst L a m s.i d) (RP L a m d (.sl .no ((rLhs L s).1.map pS)) (rLhs L s).2) (ZP L a m (rLhs L s).2) := by
 have hsk : ∀ (s : PS) w, s.skp L w = if s.is L w then s.nx else s := fun _ _ => rfl
 obtain ⟨r, hr0⟩ : ∃ r, rLhs L s = r := ⟨_, rfl⟩
 rw [hr0]
 refine eZ [3] Tryz.func135 ?_
 (repeat revert X); refine wE tfPp6 ?_; repeat intro X hX
 refine callM (pskip_any hL a _ xA s hs d k0 wOpen) ?_
 rintro v m' ⟨rfl, rfl⟩
 rw [hsk]
 cases h0 : s.is L wOpen with
 | false =>
  have hun : r = ([(rName L 2 s).1], (rName L 2 s).2) := by rw [← hr0]; unfold rLhs; rw [if_neg (by simp [h0])]
  have b1 := name_adv hL hs (kd := 2) (by decide)
  have e1 : Adv L (rName L 2 s).2 r.2 := by rw [hun]; exact .refl b1.ok
  rw [if_neg (by simp)]
  refine wS @pB.eq_1 ?_
  (repeat revert X); refine wE aEQ_t ?_; repeat intro X hX
  refine callP (pname_any hL a _ xA s hs d k0 2) (by first | exact zz hA (.refl m) (e1) | exact zz0 hA (.refl m) (e1)) ?_
  rintro v m' ⟨k1, rfl, rfl⟩
  refine wS tfPp6 ?_
  (repeat revert X); refine wE aEQ_t ?_; repeat intro X hX
  refine wQ Tryz.results135 aEQ_t ?_
  exact leave_pst0 hA (.refl m) rfl ⟨by rw [hun]; exact k1, by rw [hun]; rfl, by rw [hun]⟩
 | true =>
 have hun : r = rLhsL L (L.length + 1) [] s.nx := by rw [← hr0]; unfold rLhs; rw [if_pos h0]
 have a1 := is_adv hL hs h0
 have hmx := mu_fx (L := L) (s := s.nx)
 have hll := hL.le
 rw [if_pos rfl]
 refine wS @pB.eq_1 ?_
 (repeat revert X); refine wE tfPp6 ?_; repeat intro X hX
 obtain ⟨I, hI⟩ : ∃ I : Nat → F → M → Prop, ∀ n g m', I n g m' = (∃ (l : List Str) (s1 : PS) (o : Own) (mm : M), s1.ok L ∧ s1.k = 0 ∧ mu L s1 + 16 ≤ 16 * n ∧ l.length + n ≤ L.length + 1 ∧ r = rLhsL L n l s1 ∧ g 0 = .bp a 0 ∧ g 3 = .sl o (l.map pS) ∧ m' = pst L a mm s1.i d ∧ Toks m mm ∧ Mine m mm o 1) := ⟨_, fun _ _ _ => rfl⟩
 refine aLoopN I (L.length + 1) ?_ ?_
 ·rw [hI]; exact ⟨[], s.nx, .full, m, a1.ok, k0, by omega, by simp, hun, rfl, rfl, rfl, .refl m, .full⟩
 clear hun hr0
 intro W n g m' hrel hW
 rw [hI] at hrel
 obtain ⟨l, s1, o, mm, hs1, k1, hn, hln, hr, f0, f3, rfl, htk, ho⟩ := hrel
 obtain ⟨n, rfl⟩ : ∃ k, n = k + 1 := ⟨n - 1, by omega⟩
 have hnb := htk.nb
 have hAm : a < mm.nb := by omega
 have hun2 : rLhsL L (n + 1) l s1 = if s1.k == 0 && !s1.is L wShut then rLhsL L n (l ++ [(rName L 2 (if l.length == 0 then s1 else s1.want L wComma)).1]) (rName L 2 (if l.length == 0 then s1 else s1.want L wComma)).2 else (l, s1.skp L wShut) := rfl
 have h1 : (s1.k == 0) = true := by rw [k1]; rfl
 rw [h1, Bool.true_and] at hun2
 (repeat revert X); refine wE f0 ?_; repeat intro X hX
 refine callM (pskip_any hL a _ xA _ hs1 d k1 wShut) ?_
 rintro v m' ⟨rfl, rfl⟩
 rw [hsk]
 cases h2 : s1.is L wShut with
 | true =>
  rw [h2, if_neg (by simp), hsk, h2, if_pos rfl] at hun2
  rw [if_pos rfl]
  refine wS @pB.eq_1 ?_
  (repeat revert X); refine wE f3 ?_; repeat intro X hX
  refine wQ Tryz.results135 aEQ_t ?_
  exact leave_pst0 hA htk rfl ⟨by rw [hr, hun2]; exact k1, by rw [hr, hun2]; rfl, by rw [hr, hun2]⟩
 | false =>
  rw [h2, if_pos (by rfl)] at hun2
  rw [if_neg (by simp)]
  have hfree := ho.free
  have q1 : l.length + 1 ≤ maxLen := by unfold maxLen; omega
  have q2 : (l.length + 1) * 16 ≤ 140737488355328 := by omega
  have q3 := strs_one1 l
  have n0 := mu0 hs1 k1
  obtain ⟨c2, g2⟩ : ∃ b, (l.length == 0) = b := ⟨_, rfl⟩
  have g2i : decide ((l.length : Int) > 0) = !c2 := by rw [← g2]; exact len_posb l
  rw [g2] at hun2
  refine wS @pB.eq_1 ?_
  cases c2 with
  | true =>
   rw [if_pos rfl] at hun2
   have b1 := name_adv hL hs1 (kd := 2) (by decide)
   have n1 := name_mu hL hs1 k1 (kd := 2) (by decide)
   have e1 : Adv L (rName L 2 s1).2 r.2 := by rw [hr, hun2]; exact lhsL_adv hL _ _ _ b1.ok
   (repeat revert X); refine wE (And.intro tfPp6 (And.intro f0 (And.intro f3 g2i))) ?_; repeat intro X hX
   refine callP (pname_any hL a _ xA s1 hs1 d k1 2) (by first | exact zz hA (htk) (e1) | exact zz0 hA (htk) (e1)) ?_
   rintro v m' ⟨k2, rfl, rfl⟩
   refine wS tfPp6 ?_
   (repeat (apply And.intro; focus ((repeat' apply And.intro) <;> first | omega | assumption)))
   have ht1 := htk.use (s := 1) ho
   have ho1 := Mine.new htk o 1
   refine hW n _ _ (by omega) ?_
   rw [hI]
   exact ⟨l ++ [(rName L 2 s1).1], (rName L 2 s1).2, _, _, b1.ok, k2, by omega, by simp; omega, by rw [hr, hun2], f0, by rw [List.map_append]; rfl, rfl, ht1, ho1⟩
  | false =>
   rw [if_neg (by simp)] at hun2
   have b0 := want_adv hL hs1 wComma
   have b1 := name_adv hL b0.ok (kd := 2) (by decide)
   have n1 := mu_le b1
   have n2 := want_mu hL hs1 wComma
   have e1 : Adv L (rName L 2 (s1.want L wComma)).2 r.2 := by rw [hr, hun2]; exact lhsL_adv hL _ _ _ b1.ok
   have e0 := b1.trans e1
   (repeat revert X); refine wE (And.intro tfPp6 (And.intro f0 (And.intro f3 g2i))) ?_; repeat intro X hX
   refine callP (pwant_any hL a _ xA s1 hs1 d k1 wComma) (by first | exact zz hA (htk) (e0) | exact zz0 hA (htk) (e0)) ?_
   rintro v m' ⟨k2, rfl⟩
   refine wS aEQ_t ?_
   (repeat revert X); refine wE (And.intro f0 f3) ?_; repeat intro X hX
   refine callP (pname_any hL a _ xA _ b0.ok d k2 2) (by first | exact zz hA (htk) (e1) | exact zz0 hA (htk) (e1)) ?_
   rintro v m' ⟨k3, rfl, rfl⟩
   refine wS tfPp6 ?_
   (repeat (apply And.intro; focus ((repeat' apply And.intro) <;> first | omega | assumption)))
   have ht1 := htk.use (s := 1) ho
   have ho1 := Mine.new htk o 1
   refine hW n _ _ (by omega) ?_
   rw [hI]
   exact ⟨l ++ [(rName L 2 (s1.want L wComma)).1], (rName L 2 (s1.want L wComma)).2, _, _, b1.ok, k3, by omega, by simp; omega, by rw [hr, hun2], f0, by rw [List.map_append]; rfl, rfl, ht1, ho1⟩
end

def tfPp7 := And.intro @tfA (And.intro @Ex.settle_pv (And.intro @Ex.pure_pv (And.intro @Ex.cells_pv (And.intro @Ex.cs.eq_1 (And.intro @On.pv.eq_1 (And.intro @Ty.pv.eq_1 (And.intro @Va.settle_pv (And.intro @Va.pure_pv (And.intro @Va.cells_pv (And.intro @Va.cs.eq_1 (And.intro @Tk.settle_pv (And.intro @Tk.pure_pv (And.intro @Tk.cells_pv (And.intro @Tk.pv.eq_1 (And.intro @Tk.cs.eq_1 (And.intro @Tr.settle_pv (And.intro @Tr.pure_pv (And.intro @Tr.cells_pv (And.intro @Tr.cs.eq_1 (And.intro @En.settle_pv (And.intro @En.pure_pv (And.intro @En.cells_pv (And.intro @En.pv.eq_1 (And.intro @En.cs.eq_1 (And.intro @pst_nb (And.intro @pst_nt (And.intro @pst_fresh (And.intro @pst_use (And.intro @pst_free (And.intro @pst_alive (And.intro @pst_a (And.intro @pst_upda (And.intro @pst_ext (And.intro @pst_ext2 (And.intro @pst_ea (And.intro @pst_own (And.intro @pst_own0 (And.intro @pst_ou @pst_ou0))))))))))))))))))))))))))))))))))))))

theorem zzB {L : List Tk} {a : Nat} {m mb : M} {s r : PS} {i : Nat} {d : Int} (hA : a < m.nb) (hb : BaseR m mb) (hadv : Adv L s r) : ∀ v m', ZP L a mb s v m' → LeaveZ (pst L a m i d) (ZP L a m r) v m' := by
 rintro v m' ⟨h1, rfl, i', d', rfl⟩
 have := hadv.st h1
 subst this
 exact leave_pstB hA hb rfl ⟨h1, rfl, i', d', rfl⟩
section
variable {L : List Tk} (hL : TksOk L) (a : Nat) (m : M) (hA : a < m.nb) (s : PS) (hs : s.ok L) (k0 : s.k = 0) (d : Int)
include hL hA hs k0
set_option maxHeartbeats 8000000 in
theorem pways_any (hd : 0 ≤ d ∧ d ≤ 64) (w : Str) : ACallsZ Tryz.prog 141 [.bp a 0, pS w] (pst L a m s.i d) (RP L a m d (.sl .no ((rWays L d w s).1.map Tr.pv)) (rWays L d w s).2) (ZP L a m (rWays L d w s).2) := by
 have hsk : ∀ (s : PS) w, s.skp L w = if s.is L w then s.nx else s := fun _ _ => rfl
 obtain ⟨r, hr0⟩ : ∃ r, rWays L d w s = r := ⟨_, rfl⟩
 have hun : r = rWayL L (L.length + 1) d w [] s := hr0.symm
 have hmx := mu_fx (L := L) (s := s)
 have hll := hL.le
 rw [hr0]
 refine eZ [5, 6] Tryz.func141 ?_
 (repeat revert X); refine wE tfPp7 ?_; repeat intro X hX
 obtain ⟨I, hI⟩ : ∃ I : Nat → F → M → Prop, ∀ n g m', I n g m' = (∃ (l : List Tr) (s1 : PS) (o : Own) (mm : M), s1.ok L ∧ s1.k = 0 ∧ mu L s1 + 16 ≤ 16 * n ∧ l.length + n ≤ L.length + 1 ∧ r = rWayL L n d w l s1 ∧ g 0 = .bp a 0 ∧ g 1 = pS w ∧ g 5 = .sl o (l.map Tr.pv) ∧ m' = pst L a mm s1.i d ∧ BaseR m mm ∧ Mine m mm o 12) := ⟨_, fun _ _ _ => rfl⟩
 refine aLoopN I (L.length + 1) ?_ ?_
 ·rw [hI]; exact ⟨[], s, .full, m, hs, k0, by omega, by simp, hun, rfl, rfl, rfl, rfl, .refl m, .full⟩
 clear hun hr0
 intro W n g m' hrel hW
 rw [hI] at hrel
 obtain ⟨l, s1, o, mm, hs1, k1, hn, hln, hr, f0, f1, f5, rfl, htk, ho⟩ := hrel
 obtain ⟨n, rfl⟩ : ∃ k, n = k + 1 := ⟨n - 1, by omega⟩
 have hnb := htk.nb
 have hAm : a < mm.nb := by omega
 have hun2 : rWayL L (n + 1) d w l s1 = if s1.is L w then rWayL L n d w (l ++ [⟨(eX L d (s1.want L w)).1, (rName L 3 (if (eX L d (s1.want L w)).2.is L wCont then (eX L d (s1.want L w)).2.nx else (eX L d (s1.want L w)).2.want L wThen)).1, (eX L d (s1.want L w)).2.is L wCont, (s1.tk L).line, (s1.tk L).col⟩]) (rName L 3 (if (eX L d (s1.want L w)).2.is L wCont then (eX L d (s1.want L w)).2.nx else (eX L d (s1.want L w)).2.want L wThen)).2 else (l, s1) := rfl
 (repeat revert X); refine wE (And.intro f0 f1) ?_; repeat intro X hX
 refine callM (pis_any hL a _ xA s1 hs1 d k1 w) ?_
 rintro v m' ⟨rfl, rfl⟩
 cases h1 : s1.is L w with
 | false =>
  rw [h1, if_neg (by simp)] at hun2
  refine wS @pB.eq_1 ?_
  (repeat revert X); refine wE f5 ?_; repeat intro X hX
  refine wQ Tryz.results141 aEQ_t ?_
  exact leave_pstB hA htk rfl ⟨by rw [hr, hun2]; exact k1, by rw [hr, hun2]; rfl, by rw [hr, hun2]⟩
 | true =>
 rw [h1, if_pos rfl] at hun2
 have hw : s1.want L w = s1.nx := by unfold PS.want; rw [if_pos h1]
 rw [hw] at hun2
 have b1 := is_adv hL hs1 h1
 have n1 := mu_nx hL hs1 (is_of h1).1 (is_of h1).2.1
 have b2 := (eX_adv hL (d := d) b1.ok).1
 have n2 := mu_le b2
 have n0 := mu0 hs1 (is_of h1).1
 have hfree := ho.free
 have q1 : l.length + 1 ≤ maxLen := by unfold maxLen; omega
 have q2 : (l.length + 1) * 136 ≤ 140737488355328 := by omega
 have q3 := trs_one12 l
 have b3 : Adv L (eX L d s1.nx).2 (if (eX L d s1.nx).2.is L wCont then (eX L d s1.nx).2.nx else (eX L d s1.nx).2.want L wThen) := by
  split
  ·rename_i hi; exact is_adv hL b2.ok hi
  ·exact want_adv hL b2.ok wThen
 have b4 := name_adv hL b3.ok (kd := 3) (by decide)
 have e4 : Adv L (rName L 3 (if (eX L d s1.nx).2.is L wCont then (eX L d s1.nx).2.nx else (eX L d s1.nx).2.want L wThen)).2 r.2 := by rw [hr, hun2]; exact wayL_adv hL _ _ _ _ _ b4.ok
 have e3 := b4.trans e4
 have e2 := b3.trans e3
 have n4 := mu_le (b3.trans b4)
 refine wS @pB.eq_1 ?_
 (repeat revert X); refine wE f0 ?_; repeat intro X hX
 refine callM (ptok_any hL a _ xA _ hs1 d) ?_
 rintro v m' ⟨rfl, rfl⟩
 generalize s1.tk L = t at *
 refine wS (And.intro tfPp7 hAm) ?_
 (repeat revert X); refine wE (And.intro f0 f1) ?_; repeat intro X hX
 refine callP (pwant_any hL a _ xA s1 hs1 d k1 w) (by first | exact zzB hA (htk) ((by rw [hw]; exact b2.trans e2)) | exact zzB hA ((htk).ext _) ((by rw [hw]; exact b2.trans e2))) ?_
 rintro v m' ⟨k2, rfl⟩
 rw [hw] at k2 ⊢
 refine wS aEQ_t ?_
 (repeat revert X); refine wE f0 ?_; repeat intro X hX
 refine callP (peX_any hL a _ xA _ b1.ok k2 d hd) (by first | exact zzB hA (htk) (e2) | exact zzB hA ((htk).ext _) (e2)) ?_
 rintro v m' ⟨k3, rfl, rfl⟩
 generalize eX L d s1.nx = e at *
 rw [show e.1.pv = .ag [.v (.int .u8 e.1.kind), .v (.int .u8 e.1.op), .v (.int .i32 e.1.n), .v (.string e.1.name), .sl .no (e.1.names.map pS), .sl .no (e.1.kids.map Ex.pv), .v (.int .i64 e.1.line), .v (.int .i64 e.1.col)] from Ex.pv_eq e.1]
 refine wS (And.intro tfPp7 hAm) ?_
 (repeat revert X); refine wE f0 ?_; repeat intro X hX
 refine callM (pskip_any hL a _ xA _ b2.ok d k3 wCont) ?_
 rintro v m' ⟨rfl, rfl⟩
 rw [hsk]
 cases h2 : e.2.is L wCont with
 | true =>
  rw [h2, if_pos rfl] at hun2 b3 b4 e4
  simp only [h2, ↓reduceIte] at n4
  rw [if_pos rfl]
  refine wS (And.intro tfPp7 (And.intro hAm @pB.eq_1)) ?_
  (repeat revert X); refine wE (And.intro tfPp7 (And.intro f0 hAm)) ?_; repeat intro X hX
  refine callP (pname_any hL a _ xA e.2.nx b3.ok d k3 3) (by first | exact zzB hA (htk) (e4) | exact zzB hA ((htk).ext _) (e4)) ?_
  rintro v m' ⟨k4, rfl, rfl⟩
  generalize rName L 3 e.2.nx = x at *
  refine wS (And.intro tfPp7 hAm) ?_
  (repeat (first | refine aReg ?_; simp -implicitDefEqProofs only [forall_eq, ↓slp, slb, ↓reduceIte, jA, jB, jC, jE, jF, tfPp7, f5, hAm] | apply hX; clear hX X | apply And.intro; focus ((repeat' apply And.intro) <;> first | omega | assumption)))
  refine hW n _ _ (by omega) ?_
  rw [hI]
  exact ⟨l ++ [⟨e.1, x.1, true, t.line, t.col⟩], x.2, .tok mm.nt, _, b4.ok, k4, by omega, by simp; omega, by rw [hr, hun2], f0, f1, by rw [List.map_append]; rfl, rfl, (htk.fresh ho).ext _, (Mine.newB htk o 12).ext _⟩
 | false =>
  rw [h2, if_neg (by simp)] at hun2 b3 b4 e4
  have e3 := b4.trans e4
  simp only [h2, Bool.false_eq_true, ↓reduceIte] at n4
  rw [if_neg (by simp)]
  refine wS (And.intro tfPp7 (And.intro hAm @pB.eq_1)) ?_
  (repeat revert X); refine wE (And.intro tfPp7 (And.intro f0 hAm)) ?_; repeat intro X hX
  refine callP (pwant_any hL a _ xA _ b2.ok d k3 wThen) (by first | exact zzB hA (htk) (e3) | exact zzB hA ((htk).ext _) (e3)) ?_
  rintro v m' ⟨k5, rfl⟩
  refine wS aEQ_t ?_
  (repeat revert X); refine wE f0 ?_; repeat intro X hX
  refine callP (pname_any hL a _ xA _ b3.ok d k5 3) (by first | exact zzB hA (htk) (e4) | exact zzB hA ((htk).ext _) (e4)) ?_
  rintro v m' ⟨k4, rfl, rfl⟩
  generalize rName L 3 (e.2.want L wThen) = x at *
  refine wS (And.intro tfPp7 hAm) ?_
  (repeat (first | refine aReg ?_; simp -implicitDefEqProofs only [forall_eq, ↓slp, slb, ↓reduceIte, jA, jB, jC, jE, jF, tfPp7, f5, hAm] | apply hX; clear hX X | apply And.intro; focus ((repeat' apply And.intro) <;> first | omega | assumption)))
  refine hW n _ _ (by omega) ?_
  rw [hI]
  exact ⟨l ++ [⟨e.1, x.1, false, t.line, t.col⟩], x.2, .tok mm.nt, _, b4.ok, k4, by omega, by simp; omega, by rw [hr, hun2], f0, f1, by rw [List.map_append]; rfl, rfl, (htk.fresh ho).ext _, (Mine.newB htk o 12).ext _⟩
set_option maxHeartbeats 8000000 in
theorem penum_any : ACallsZ Tryz.prog 76 [.bp a 0] (pst L a m s.i d) (RP L a m d (rEnum L s).1.pv (rEnum L s).2) (ZP L a m (rEnum L s).2) := by
 have a1 := want_adv hL hs wType
 have a2 := name_adv hL a1.ok (kd := 2) (by decide)
 have a3 := want_adv hL a2.ok wEq
 have hll := hL.le
 obtain ⟨R, hR0⟩ : ∃ r, rEnum L s = r := ⟨_, rfl⟩
 obtain ⟨r, hr0⟩ : ∃ r, rCtL L (L.length + 1) [] ((rName L 2 (s.want L wType)).2.want L wEq) = r := ⟨_, rfl⟩
 have hun : R = (⟨(rName L 2 (s.want L wType)).1, r.1, ((s.want L wType).tk L).line, ((s.want L wType).tk L).col⟩, r.2.want L wSemi) := by rw [← hR0, ← hr0]; rfl
 have a4 := ctL_adv hL (L.length + 1) [] _ a3.ok
 rw [hr0] at a4
 have a5 := want_adv hL a4.ok wSemi
 have e5 : Adv L (r.2.want L wSemi) R.2 := by rw [hun]; exact .refl a5.ok
 have e4 := a5.trans e5
 have e3 := a4.trans e4
 have e2 := a3.trans e3
 have e1 := a2.trans e2
 rw [hR0]
 refine eZ [2, 3] Tryz.func76 ?_
 (repeat revert X); refine wE (And.intro tfPp7 hA) ?_; repeat intro X hX
 refine callP (pwant_any hL a _ xA s hs d k0 wType) (by first | exact zz hA (.refl m) (e1) | exact zz0 hA (.refl m) (e1)) ?_
 rintro v m' ⟨k1, rfl⟩
 refine wS tfPp7 ?_
 (repeat revert X); refine wE aEQ_t ?_; repeat intro X hX
 refine callM (ptok_any hL a _ xA _ a1.ok d) ?_
 rintro v m' ⟨rfl, rfl⟩
 generalize (s.want L wType).tk L = t at *
 refine wS tfPp7 ?_
 (repeat revert X); refine wE (And.intro tfPp7 hA) ?_; repeat intro X hX
 refine callP (pname_any hL a _ xA _ a1.ok d k1 2) (by first | exact zz hA (.refl m) (e2) | exact zz0 hA (.refl m) (e2)) ?_
 rintro v m' ⟨k2, rfl, rfl⟩
 generalize rName L 2 (s.want L wType) = nm at *
 refine wS (And.intro tfPp7 hA) ?_
 (repeat revert X); refine wE aEQ_t ?_; repeat intro X hX
 refine callP (pwant_any hL a _ xA _ a2.ok d k2 wEq) (by first | exact zz hA (.refl m) (e3) | exact zz0 hA (.refl m) (e3)) ?_
 rintro v m' ⟨k3, rfl⟩
 generalize nm.2.want L wEq = s4 at *
 refine wS tfPp7 ?_
 (repeat revert X); refine wE aEQ_t ?_; repeat intro X hX
 have hmx := mu_fx (L := L) (s := s4)
 obtain ⟨I, hI⟩ : ∃ I : Nat → F → M → Prop, ∀ n g m', I n g m' = (∃ (l : List Str) (s5 : PS) (o : Own) (mm : M), s5.ok L ∧ s5.k = 0 ∧ mu L s5 + 16 ≤ 16 * n ∧ l.length + n ≤ L.length + 1 ∧ l.length ≤ 32 ∧ r = rCtL L n l s5 ∧ g 0 = .bp a 0 ∧ g 2 = .bp m.nb 0 ∧ g 3 = .bp (m.nb + 1) 0 ∧ m' = pst L a (mm.ext [some [.v (.string ⟨#[]⟩), .sl .full [], .v (.int .i64 0), .v (.int .i64 0)], some [.v (.string nm.1), .sl o (l.map pS), .v (.int .i64 t.line), .v (.int .i64 t.col)]]) s5.i d ∧ Toks m mm ∧ Mine m mm o 1) := ⟨_, fun _ _ _ => rfl⟩
 refine aLoopN I (L.length + 1) ?_ ?_
 ·rw [hI]; exact ⟨[], s4, .full, m, a3.ok, k3, by omega, by simp, by simp, hr0.symm, rfl, rfl, rfl, rfl, .refl m, .full⟩
 intro W n g m' hrel hW
 rw [hI] at hrel
 obtain ⟨l, s5, o, mm, hs5, k5, hn, hln, hl32, hr, f0, f2, f3, rfl, htk, ho⟩ := hrel
 clear hr0 e1 e2 e3
 obtain ⟨n, rfl⟩ : ∃ k, n = k + 1 := ⟨n - 1, by omega⟩
 have hnb := htk.nb
 have hAm : a < mm.nb := by omega
 have hun2 : rCtL L (n + 1) l s5 = if s5.k == 0 then (if (rName L 3 (if l.length == 32 then s5.here L 3 else s5)).2.is L wBar then rCtL L n (l ++ [(rName L 3 (if l.length == 32 then s5.here L 3 else s5)).1]) (rName L 3 (if l.length == 32 then s5.here L 3 else s5)).2.nx else (l ++ [(rName L 3 (if l.length == 32 then s5.here L 3 else s5)).1], (rName L 3 (if l.length == 32 then s5.here L 3 else s5)).2)) else (l, s5) := rfl
 have h1 : (s5.k == 0) = true := by rw [k5]; rfl
 rw [h1, if_pos rfl] at hun2
 have n0 := mu0 hs5 k5
 have hl2 : l.length ≤ 70000 := by omega
 have key : ∀ s6, s6.ok L → Adv L (rName L 3 s6).2 (if (rName L 3 s6).2.is L wBar then rCtL L n (l ++ [(rName L 3 s6).1]) (rName L 3 s6).2.nx else (l ++ [(rName L 3 s6).1], (rName L 3 s6).2)).2 := fun s6 h6 => by
  have b1 := name_adv hL h6 (kd := 3) (by decide)
  split
  ·rename_i hi
   have b2 := is_adv hL b1.ok hi
   exact b2.trans (ctL_adv hL _ _ _ b2.ok)
  ·exact .refl b1.ok
 by_cases hc : 32 ≤ l.length
 ·have hcb : decide ((l.length : Int) ≥ 32) = true := by simp; omega
  have hcn : (l.length == 32) = true := by simp; omega
  simp only [hcn, ↓reduceIte] at hun2
  have b0 := here_adv hL hs5 3
  have b1 := name_adv hL b0.ok (kd := 3) (by decide)
  have e6 : Adv L (s5.here L 3) R.2 := by
   refine b1.trans (Adv.trans (s' := r.2) ?_ e4)
   rw [hr, hun2]
   exact key _ b0.ok
  (repeat revert X); refine wE (And.intro tfPp7 (And.intro f0 (And.intro f3 (And.intro hnb (And.intro hA hcb))))) ?_; repeat intro X hX
  refine callP (pfail_any hL a _ xA s5 hs5 d k5 3 (by decide)) (by first | exact zz hA (htk) (e6) | exact zz0 hA (htk) (e6)) (fun v m' h => h.elim)
 ·have hcb : decide ((l.length : Int) ≥ 32) = false := by simp; omega
  have hcn : (l.length == 32) = false := by simp; omega
  simp only [hcn, Bool.false_eq_true, ↓reduceIte] at hun2
  have hfree := ho.free
  have q1 : l.length + 1 ≤ maxLen := by unfold maxLen; omega
  have q2 : (l.length + 1) * 16 ≤ 140737488355328 := by omega
  have q3 := strs_one1 l
  have b1 := name_adv hL hs5 (kd := 3) (by decide)
  have n1 := mu_le b1
  have e6 : Adv L (rName L 3 s5).2 R.2 := by
   refine Adv.trans (s' := r.2) ?_ e4
   rw [hr, hun2]
   exact key s5 hs5
  (repeat revert X); refine wE (And.intro tfPp7 (And.intro f3 (And.intro hnb (And.intro hA hcb)))) ?_; repeat intro X hX
  refine aDrwEZ 3 (isP1 L a m [.v (.string nm.1), .sl o (l.map pS), .v (.int .i64 t.line), .v (.int .i64 t.col)] d) (by decide) (hne := List.cons_ne_nil _ _) rfl (by kernel_rfl) rfl rfl (by kernel_rfl) (by kernel_rfl) (isP1_of htk.boxes) ?_
  simp -implicitDefEqProofs only [↓slp, slb, ↓reduceIte, reduceCtorEq, jA, jB, jC, jD, jE, jF, tfPp7, isP1_all, List.dropLast_cons_cons, List.dropLast_singleton, List.getLast_cons_cons, List.getLast_singleton, List.getElem_cons_zero, List.getElem_cons_succ, f0, f3, hnb, hA, pst_gx1]
  refine callP (pname_any hL a _ xA s5 hs5 d k5 3) (by first | exact zz hA (htk) (e6) | exact zz0 hA (htk) (e6)) ?_
  rintro v m' ⟨k6, rfl, rfl⟩
  generalize rName L 3 s5 = c at *
  refine ⟨isP1_of htk.boxes, ?_⟩
  refine wS (And.intro tfPp7 (And.intro f3 (And.intro hnb hA))) ?_
  (repeat ((apply And.intro; (focus (trivial)))))
  have ht1 := htk.use (s := 1) ho
  have ho1 := Mine.new htk o 1
  refine ⟨isP1_of ht1.boxes, ?_⟩
  have hnb1 := ht1.nb
  have hA1 : a < ((o.use mm).fresh 1).nb := by omega
  generalize (o.use mm).fresh 1 = m1 at *
  generalize Own.tok mm.nt = o1 at *
  clear htk ho hnb hAm
  (repeat revert X); refine wE f0 ?_; repeat intro X hX
  refine callM (pskip_any hL a _ xA _ b1.ok d k6 wBar) ?_
  rintro v m' ⟨rfl, rfl⟩
  rw [show c.2.skp L wBar = if c.2.is L wBar then c.2.nx else c.2 from rfl]
  cases h3 : c.2.is L wBar with
  | true =>
   rw [h3, if_pos rfl] at hun2
   rw [if_pos rfl]
   have b2 := is_adv hL b1.ok h3
   have n2 := mu_nx hL b1.ok (is_of h3).1 (is_of h3).2.1
   refine wS (And.intro tfPp7 @pB.eq_1) ?_
   (repeat revert X); refine wE tfPp7 ?_; repeat intro X hX
   refine hW n _ _ (by omega) ?_
   rw [hI]
   exact ⟨l ++ [c.1], c.2.nx, o1, m1, b2.ok, k6, by omega, by simp; omega, by simp; omega, by rw [hr, hun2], f0, f2, f3, by rw [List.map_append]; rfl, ht1, ho1⟩
  | false =>
   rw [h3, if_neg (by simp)] at hun2
   rw [if_neg (by simp)]
   have hr2 : r = (l ++ [c.1], c.2) := by rw [hr, hun2]
   rw [hr2] at hun e5
   refine wS (And.intro tfPp7 @pB.eq_1) ?_
   (repeat revert X); refine wE (And.intro tfPp7 f0) ?_; repeat intro X hX
   refine callP (pwant_any hL a _ xA _ b1.ok d k6 wSemi) (by first | exact zz hA (ht1) (e5) | exact zz0 hA (ht1) (e5)) ?_
   rintro v m' ⟨k7, rfl⟩
   refine wS tfPp7 ?_
   (repeat revert X); refine wE (And.intro tfPp7 (And.intro f2 (And.intro f3 (And.intro hnb1 hA)))) ?_; repeat intro X hX
   refine wQ Tryz.results76 (And.intro tfPp7 (And.intro f2 (And.intro hnb1 hA))) ?_
   exact leave_pst hA ht1 rfl ⟨by rw [hun]; exact k7, by rw [hun]; simp only [En.pv, En.cs, List.map_append]; rfl, by rw [hun]⟩
end

open Go Go.RowKit

structure Forget (m m1 : M) : Prop where
 nb : m1.boxes.length = m.boxes.length
 toks : m1.toks = m.toks
 get : ∀ id c, m1.get id = some c → m.get id = some c
theorem Inv.forget {G : Ghost} {m m1 : M} {w : World} (hI : Inv G m w) (h : Forget m m1) : Inv G m1 w := by
 have ha : ∀ t s, m1.alive t s → m.alive t s := fun t s hx => by
  unfold M.alive at *
  rw [h.toks] at hx
  exact hx
 exact ⟨by rw [h.nb]; exact hI.nb, by rw [h.toks]; exact hI.nt, hI.base, fun id c hc => hI.box id c (h.get id c hc), fun id c hc => hI.boxset id c (h.get id c hc), fun id id' c c' h1 h2 => hI.inj id id' c c' (h.get _ _ h1) (h.get _ _ h2),
  fun t s hx => ⟨(hI.tok t s (ha t s hx)).1, fun b o hb => by
   obtain ⟨q1, q2, q3, q4, q5⟩ := (hI.tok t s (ha t s hx)).2 b o hb
   exact ⟨q1, q2, q3, q4, fun id c hc => q5 id c (h.get id c hc)⟩⟩, fun t t' s s' h1 h2 => hI.tokd t t' s s' (ha _ _ h1) (ha _ _ h2), hI.set, hI.lay⟩
theorem ACallsZ.enterF {P : Program} {mu : List Nat} {g : FuncId} {fn : Func} {c : Code} {args : List PV} {m : M} {R Z Z0 : PV → M → Prop} (hz : ∀ v m', Z0 v m' → ∃ m1, Forget m' m1 ∧ LeaveZ m Z v m1) (hmix : P.follows .mixedOrders = true) (hf : P.funcs[g]? = some fn) (hb : fn.body = some c) (hc : canCall P g = true)
    (hbd : Go.Code.bd (.of fn.ntmps) c = true) (hn : args.length ≤ fn.ntmps) (h : aCode P mu Z0 c (aPost P fn.results.toList m R) (F.args args) m) : ACallsZ P g args m R Z := by
 refine ⟨hc, fun G w vs hI hl hr => calls_of_wp_defers hf hb ?_⟩
 have hS : St (.of fn.ntmps) [] G (F.args args) m { tmps := vs.toArray ++ Array.replicate (fn.ntmps - vs.toArray.size) undef, defers := [] } w :=
  ⟨enter_fr hl hr, hI, rfl, by simp [Fi.of]; omega, fun k hk => by simp [Fi.of] at hk⟩
 refine wp_mono (aCode_sound hmix c h hbd hS) fun e a3 w3 hl3 => ?_
 rcases hl3 with ⟨G3, f3, m3, hk, hS3, hE3⟩ | ⟨y, v, m3, G3, rfl, hz0, hrv, hI3, hE3, hd3, _⟩
 ·have hgo : aRes P f3 m3 fn.results.toList (fun vs => ∃ v' m'', Leave m m3 (pack vs) v' m'' ∧ R v' m'') → Leaves P fn a3.tmps (fun e w' => (∃ y v m' G', e = .returned y ∧ R v m' ∧ Rep G' w' v y ∧ Inv G' m' w' ∧ Ext G w G' w') ∨ (∃ y v m' G', e = .panicked [{ v := y, recovered := false }] ∧ Z v m' ∧ Rep G' w' v y ∧ Inv G' m' w' ∧ Ext G w G' w')) a3.defers .returning w3 := fun hk => by
    rw [hS3.defers]
    obtain ⟨y, hy1, v, m'', G'', q1, q2, q3, q4⟩ := res_fin hI hE3 hS3.inv hS3.fr hk
    exact ⟨y, hy1, .inl ⟨y, v, m'', G'', rfl, q1, q2, q3, q4⟩⟩
  cases e with
  | normal => exact hgo hk
  | ret => exact hgo hk
  | _ => exact hk.elim
 ·show Leaves P fn a3.tmps _ a3.defers _ w3
  have hd0 : a3.defers = [] := hd3
  rw [hd0]
  obtain ⟨m4, hf4, v', m'', hlv, hZ⟩ := hz _ _ hz0
  obtain ⟨G'', g1, g2, g3⟩ := hlv.sound hI hE3 (hI3.forget hf4) hrv
  exact .inr ⟨y, v', m'', G'', rfl, hZ, g1, g2, g3⟩
end Go.Proofs.YtohgdopfjkjppaaGreatDoor
