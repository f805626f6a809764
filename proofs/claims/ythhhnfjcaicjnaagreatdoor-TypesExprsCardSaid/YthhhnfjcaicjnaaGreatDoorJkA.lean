/-
 Texts that belong together: TpJ, TpK, TpO.
-/
-- halved
import Derived.Test.YthhhnfjcaicjnaaGreatDoorAbMac
import Derived.Test.YthhhnfjcaicjnaaGreatDoorPlA
import Derived.Test.YthhhnfjcaicjnaaGreatDoorArA
import Derived.Test.YthhhnfjcaicjnaaGreatDoorNW
set_option linter.unusedVariables false
set_option linter.unusedSimpArgs false
namespace Go.Proofs.YthhhnfjcaicjnaaGreatDoor
open Nat renaming reduceEqDiff → jA, reduceAdd → jB, reduceMul → jC, reduceLT → jD, reduceLeDiff → jE, reduceBEq → jF, reduceBNe → jG
open Int renaming reduceLE → jH, reduceLT → jI, reduceToNat → jJ, reduceEq → jK
open Go
set_option maxRecDepth 20000
set_option linter.defProp false
def tfTpJ := tfAbPl1

def plT (t : Tr) (c : Int) : Tr × Int := (⟨(plE t.e (nxt c)).1, t.to, t.resume, nxt c, 1⟩, (plE t.e (nxt c)).2)
def plTs : List Tr → Int → List Tr × Int
 | [], c => ([], c)
 | v :: l, c => ((plT v c).1 :: (plTs l (plT v c).2).1, (plTs l (plT v c).2).2)
theorem plTs_snoc (l : List Tr) (x : Tr) : ∀ c, plTs (l ++ [x]) c = ((plTs l c).1 ++ [(plT x (plTs l c).2).1], (plT x (plTs l c).2).2) := by
 induction l with
 | nil => intro c; simp [plTs]
 | cons a l ih => intro c; simp [plTs, ih]
theorem plTs_len (l : List Tr) : ∀ c, (plTs l c).1.length = l.length := by
 induction l with
 | nil => intro c; rfl
 | cons a l ih => intro c; simp [plTs, ih]
set_option maxHeartbeats 4000000 in
theorem cways_any (l : List Tr) (hl : l.length ≤ 1000000000) (hx : ∀ v ∈ l, v.e.nar) (a : Nat) (m : M) (hA : a < m.nb) (n : Int) : ACalls Tryz.prog 33 [.bp a 0, .sl .no (l.map Tr.pv)] (cnt a m n) (fun v m' => v = .sl .no ((plTs l n).1.map Tr.pv) ∧ m' = cnt a m (plTs l n).2) := by
 refine eN [7] Tryz.func33 ?_
 (repeat revert X); refine wE tfTpJ ?_; repeat intro X hX
 obtain ⟨I, hI⟩ : ∃ I : F → M → Prop, ∀ f m', I f m' = (∃ (k : Nat) (o : Own) (mb : M), k ≤ l.length ∧ f 0 = .bp a 0 ∧ f 1 = .sl .no (l.map Tr.pv) ∧ f 5 = .sl o ((plTs (l.take k) n).1.map Tr.pv) ∧ f 6 = pI k ∧ m' = cnt a mb (plTs (l.take k) n).2 ∧ BaseR m mb ∧ Mine m mb o 12) := ⟨_, fun _ _ => rfl⟩
 refine aLoop I (fun f m => l.length - numOf (f 6)) ?_ ?_
 ·rw [hI]; exact ⟨0, .full, m, by omega, rfl, rfl, rfl, rfl, rfl, .refl m, .full⟩
 intro f m' hrel
 rw [hI] at hrel
 obtain ⟨k, o, mb, hk, f0, f1, f5, f6, rfl, hB, ho⟩ := hrel
 have hAb : a < mb.nb := Nat.lt_of_lt_of_le hA hB.nb
 cases c1 : decide ((k : Int) < (l.length : Int)) with
 | true =>
  have hlt : k < l.length := by simpa using c1
  have hg := getD_map Tr.pv l k hlt
  have hi : IntKind.i64.wrap ((k : Int) + 1) = ((k + 1 : Nat) : Int) := by rw [wrap64 (by omega)]; omega
  have hme : numOf (f 6) = k := by rw [f6]; exact Int.toNat_natCast k
  have htk : l.take (k + 1) = l.take k ++ [l[k]] := List.take_succ_eq_append_getElem hlt
  have hsn := plTs_snoc (l.take k) l[k] n
  rw [← htk] at hsn
  have hlen := plTs_len (l.take k) n
  rw [List.length_take, Nat.min_eq_left hk] at hlen
  have hv := hx _ (List.getElem_mem hlt)
  generalize l[k] = x at *
  generalize hP : plTs (l.take k) n = P at *
  (repeat (first | refine aSeq fun X hX => ?_ | refine aSkip ?_ | (first | apply aReg | apply aIf); simp -implicitDefEqProofs only [↓slp, slb, ↓reduceIte, reduceCtorEq, jA, jB, jE, jF, tfTpJ, f0, f1, f6, pI, c1, hAb, hg] | apply hX; clear hX X | intro hlen; unfold maxLen at hlen | apply And.intro; focus omega))
  refine callM (cnext_any a _ (by first | assumption | (rw [ext_nb]; omega)) _) ?_
  rintro v m' ⟨rfl, rfl⟩
  refine wS (And.intro tfTpJ (And.intro f6 hAb)) ?_
  (repeat revert X); refine wE (And.intro tfTpJ (And.intro f0 hAb)) ?_; repeat intro X hX
  refine callM (cexpr_any x.e hv a _ (by rw [ext_nb]; omega) _) ?_
  rintro v m' ⟨rfl, rfl⟩
  have hpl : plT x P.2 = (⟨(plE x.e (nxt P.2)).1, x.to, x.resume, nxt P.2, 1⟩, (plE x.e (nxt P.2)).2) := rfl
  generalize plE x.e (nxt P.2) = q at *
  have hfree := ho.free
  have q1 : P.1.length + 1 ≤ maxLen := by unfold maxLen; omega
  have q3 := trs_len P.1
  refine wS (And.intro tfTpJ (And.intro f6 hAb)) ?_
  (repeat (first | refine aReg ?_; simp -implicitDefEqProofs only [forall_eq, ↓slp, slb, ↓reduceIte, jA, jB, jC, jE, jF, tfTpJ, f5, f6, hAb, pI, hi] | apply hX; clear hX X | apply And.intro; focus ((repeat' apply And.intro) <;> first | omega | assumption)))
  rw [hI]
  exact ⟨⟨k + 1, .tok mb.nt, _, hlt, f0, f1, by rw [hsn, hpl, List.map_append]; rfl, rfl, by rw [hsn, hpl], (hB.fresh ho).ext _, (Mine.newB hB o 12).ext _⟩, by omega⟩
 | false =>
  have hk' : k = l.length := by simp at c1; omega
  subst hk'
  rw [List.take_length] at f5
  rw [List.take_length]
  (repeat revert X); refine wE (And.intro tfTpJ (And.intro f1 (And.intro f5 (And.intro f6 (And.intro @pI.eq_1 c1))))) ?_; repeat intro X hX
  refine wR Tryz.results33 ?_
  exact leave_cntB hA hB rfl ⟨rfl, rfl⟩

def tfTpK := And.intro @tfA (And.intro @Ex.settle_pv (And.intro @Ex.pure_pv (And.intro @Ex.cells_pv (And.intro @Ex.cs.eq_1 (And.intro @On.pv.eq_1 (And.intro @Ty.pv.eq_1 (And.intro @Va.settle_pv (And.intro @Va.pure_pv (And.intro @Va.cells_pv (And.intro @Va.cs.eq_1 (And.intro @Qu.settle_pv (And.intro @Qu.pure_pv (And.intro @Qu.cells_pv (And.intro @Qu.cs.eq_1 (And.intro @Am.settle_pv (And.intro @Am.pure_pv (And.intro @Am.cells_pv (And.intro @Am.cs.eq_1 (And.intro @Tr.settle_pv (And.intro @Tr.pure_pv (And.intro @Tr.cells_pv (And.intro @Tr.cs.eq_1 (And.intro @cnt_nb (And.intro @cnt_nt (And.intro @cnt_fresh (And.intro @cnt_use (And.intro @cnt_free (And.intro @cnt_alive (And.intro @cnt_a (And.intro @cnt_upda (And.intro @cnt_ext (And.intro @cnt_ext2 (And.intro @cnt_ea (And.intro @cnt_own (And.intro @cnt_own0 (And.intro @cnt_ou @cnt_ou0))))))))))))))))))))))))))))))))))))

theorem appQ {α : Type} (r s : List α) (x : α) : (r ++ x :: s)[r.length]? = some x := by simp
theorem appQs {α : Type} (r s : List α) (x y : α) : (r ++ x :: s).set r.length y = r ++ y :: s := by
 rw [List.set_append_right _ _ (Nat.le_refl _)]; simp
theorem appA {α : Type} (r s : List α) (x y : α) : (r ++ x :: (s ++ [y]))[r.length + (s.length + 1)]? = some y := by
 rw [List.getElem?_append_right (by omega), Nat.add_sub_cancel_left, List.getElem?_cons_succ]; simp
theorem appAs {α : Type} (r s : List α) (x y z : α) : (r ++ x :: (s ++ [y])).set (r.length + (s.length + 1)) z = r ++ x :: (s ++ [z]) := by
 rw [List.set_append_right _ _ (by omega), Nat.add_sub_cancel_left, List.set_cons_succ, List.set_append_right _ _ (Nat.le_refl _)]; simp
theorem ams_len (l : List Am) : ∀ x ∈ l.map Am.pv, x.cells.length = 7 := fun x hx => by
 obtain ⟨a, _, rfl⟩ := List.mem_map.1 hx
 rw [Am.cells_pv]; rfl
def Ex.ok1 (e : Ex) : Prop := e.nar ∧ e.size ≤ 1000000
theorem nxt_id {c : Int} (h0 : 0 ≤ c) (h : c + 1 ≤ 2 ^ 62) : nxt c = c + 1 := by unfold nxt; exact wrap64 (by omega)
theorem plE_cnt : ∀ (e : Ex) (c : Int), 0 ≤ c → c + e.size ≤ 2 ^ 62 → (plE e c).2 = c + e.size := by
 intro e
 refine Ex.ind (motive := fun e => ∀ c : Int, 0 ≤ c → c + e.size ≤ 2 ^ 62 → (plE e c).2 = c + e.size) (fun e IH c h0 h => ?_) e
 have h2 : ∀ (l : List Ex) (c : Int), (∀ (k : Nat) (hk : k < l.length) (c : Int), 0 ≤ c → c + l[k].size ≤ 2 ^ 62 → (plE l[k] c).2 = c + l[k].size) → 0 ≤ c → c + Ex.sizes l ≤ 2 ^ 62 → (plEs l c).2 = c + Ex.sizes l := by
  intro l
  induction l with
  | nil => intro c _ _ _; simp [plEs, Ex.sizes]
  | cons x l ih =>
   intro c h h0 hs
   simp only [Ex.sizes] at hs
   rw [plEs]
   have h3 := h 0 (by simp) c h0 (by simp only [List.getElem_cons_zero]; omega)
   simp only [List.getElem_cons_zero] at h3
   show (plEs l (plE x c).2).2 = _
   rw [h3, ih _ (fun k hk c => h (k + 1) (by simpa using hk) c) (by omega) (by omega)]
   simp only [Ex.sizes]; omega
 rw [plE_eq]
 rw [e.size_eq] at h ⊢
 show (plEs e.kids (nxt c)).2 = _
 rw [nxt_id h0 (by omega), h2 _ _ IH (by omega) (by omega)]
 omega
theorem plEs_cnt : ∀ (l : List Ex) (c : Int), (∀ e ∈ l, e.size ≤ 1000000) → 0 ≤ c → c + 1000000 * (l.length : Int) ≤ 2 ^ 62 → c ≤ (plEs l c).2 ∧ (plEs l c).2 ≤ c + 1000000 * (l.length : Int)
 | [], c, _, _, _ => by simp [plEs]
 | e :: l, c, h, h0, hc => by
  have h1 := h e (List.mem_cons_self ..)
  simp only [List.length_cons] at hc ⊢
  have h2 := plE_cnt e c h0 (by omega)
  have h3 := plEs_cnt l (plE e c).2 (fun x hx => h x (List.mem_cons_of_mem _ hx)) (by omega) (by omega)
  rw [plEs]
  show c ≤ (plEs l (plE e c).2).2 ∧ (plEs l (plE e c).2).2 ≤ _
  omega
theorem plVs_cnt : ∀ (l : List Va) (c : Int), (∀ v ∈ l, v.first.size ≤ 1000000) → 0 ≤ c → c + 1000001 * (l.length : Int) ≤ 2 ^ 62 → c ≤ (plVs l c).2 ∧ (plVs l c).2 ≤ c + 1000001 * (l.length : Int)
 | [], c, _, _, _ => by simp [plVs]
 | e :: l, c, h, h0, hc => by
  have h1 := h e (List.mem_cons_self ..)
  simp only [List.length_cons] at hc ⊢
  have h2 : (plV e c).2 = c + 1 + e.first.size := by
   show (plE e.first (nxt c)).2 = _
   rw [nxt_id h0 (by omega), plE_cnt e.first _ (by omega) (by omega)]
  have h3 := plVs_cnt l (plV e c).2 (fun x hx => h x (List.mem_cons_of_mem _ hx)) (by omega) (by omega)
  rw [plVs]
  show c ≤ (plVs l (plV e c).2).2 ∧ (plVs l (plV e c).2).2 ≤ _
  omega
theorem plTs_cnt : ∀ (l : List Tr) (c : Int), (∀ v ∈ l, v.e.size ≤ 1000000) → 0 ≤ c → c + 1000001 * (l.length : Int) ≤ 2 ^ 62 → c ≤ (plTs l c).2 ∧ (plTs l c).2 ≤ c + 1000001 * (l.length : Int)
 | [], c, _, _, _ => by simp [plTs]
 | e :: l, c, h, h0, hc => by
  have h1 := h e (List.mem_cons_self ..)
  simp only [List.length_cons] at hc ⊢
  have h2 : (plT e c).2 = c + 1 + e.e.size := by
   show (plE e.e (nxt c)).2 = _
   rw [nxt_id h0 (by omega), plE_cnt e.e _ (by omega) (by omega)]
  have h3 := plTs_cnt l (plT e c).2 (fun x hx => h x (List.mem_cons_of_mem _ hx)) (by omega) (by omega)
  rw [plTs]
  show c ≤ (plTs l (plT e c).2).2 ∧ (plTs l (plT e c).2).2 ≤ _
  omega
structure Qu.nw (q : Qu) : Prop where
 e : q.e.ok1
 args : q.args.length ≤ 1000000000 ∧ Ex.nars q.args ∧ ∀ e ∈ q.args, e.size ≤ 1000000
 arms : q.arms.length ≤ 1000000000 ∧ ∀ x ∈ q.arms, (x.unl.length ≤ 1000000000 ∧ ∀ t ∈ x.unl, t.e.ok1) ∧ (x.til.length ≤ 1000000000 ∧ ∀ t ∈ x.til, t.e.ok1)
theorem sameL_snoc {α : Type} {R : α → α → Bool} : ∀ {l r : List α} {a b : α}, sameL R l r = true → R a b = true → sameL R (l ++ [a]) (r ++ [b]) = true
 | [], [], a, b, _, h => by simp [sameL, h]
 | [], _ :: _, a, b, h, _ => by simp [sameL] at h
 | _ :: _, [], a, b, h, _ => by simp [sameL] at h
 | x :: l, y :: r, a, b, h, h2 => by
  simp only [sameL, List.cons_append, Bool.and_eq_true] at h ⊢
  exact ⟨h.1, sameL_snoc h.2 h2⟩
theorem same_plE : ∀ (e : Ex) (c : Int), e.same (plE e c).1 = true := by
 intro e
 refine Ex.ind (motive := fun e => ∀ c, e.same (plE e c).1 = true) (fun e IH c => ?_) e
 rw [Ex.same_eq, plE_eq]
 have h1 : sameSs e.names e.names = true := (sameL_iff (fun a b => eqS_iff)).2 rfl
 have h2 : ∀ (l : List Ex) (c : Int), (∀ (k : Nat) (hk : k < l.length) (c : Int), l[k].same (plE l[k] c).1 = true) → sameL Ex.same l (plEs l c).1 = true := by
  intro l
  induction l with
  | nil => intro c _; rfl
  | cons x l ih =>
   intro c h
   rw [plEs]
   simp only [sameL, Bool.and_eq_true]
   exact ⟨h 0 (by simp) c, ih _ (fun k hk c => h (k + 1) (by simpa using hk) c)⟩
 have h3 := h2 e.kids (nxt c) IH
 have h4 : eqS e.name e.name = true := eqS_iff.2 rfl
 simp [Ex.kind, Ex.op, Ex.n, Ex.name, Ex.names, Ex.kids] at *
 simp [*]
theorem same_plEs : ∀ (l : List Ex) (c : Int), sameL Ex.same l (plEs l c).1 = true
 | [], c => rfl
 | e :: l, c => by
  rw [plEs]
  simp only [sameL, Bool.and_eq_true]
  exact ⟨same_plE e c, same_plEs l _⟩
theorem same_plVs : ∀ (l : List Va) (c : Int), sameL Va.same l (plVs l c).1 = true
 | [], c => rfl
 | v :: l, c => by
  rw [plVs]
  simp only [sameL, Bool.and_eq_true]
  refine ⟨?_, same_plVs l _⟩
  have h1 : eqS v.name v.name = true := eqS_iff.2 rfl
  have h2 : v.t.eq v.t = true := by simp [Ty.eq, eqS_iff.2 rfl]
  have h3 : sameL On.eq v.clock v.clock = true := by
   refine (sameL_iff (fun a b => ?_)).2 rfl
   cases a; cases b; simp [On.eq, eqS_iff]
  show (eqS v.name v.name && v.t.eq v.t && sameL On.eq v.clock v.clock && (v.last == v.last) && v.first.same (plE v.first (nxt c)).1) = true
  rw [h1, h2, h3, same_plE]; simp
theorem same_plTs : ∀ (l : List Tr) (c : Int), sameL smT l (plTs l c).1 = true
 | [], c => rfl
 | t :: l, c => by
  rw [plTs]
  simp only [sameL, Bool.and_eq_true]
  refine ⟨?_, same_plTs l _⟩
  have h1 : eqS t.to t.to = true := eqS_iff.2 rfl
  show (eqS t.to t.to && (t.resume == t.resume) && t.e.same (plE t.e (nxt c)).1) = true
  rw [h1, same_plE]; simp
def NwB : Nat → List Va → List Qu → Prop
 | 0, V, Q => V.length ≤ 1000000000 ∧ (∀ v ∈ V, v.first.ok1) ∧ Q.length ≤ 1000000000 ∧ ∀ q ∈ Q, q.nw ∧ q.arms = []
 | d + 1, V, Q => V.length ≤ 1000000000 ∧ (∀ v ∈ V, v.first.ok1) ∧ Q.length ≤ 1000000000 ∧ ∀ q ∈ Q, q.nw ∧ ∀ x ∈ q.arms, NwB d x.vars x.eqs
set_option maxHeartbeats 8000000 in
theorem cblock_step {sb : SbT} {wb : WbT} (vs : List Va) (l : List Qu) (hvl : vs.length ≤ 1000000000) (hvo : ∀ v ∈ vs, v.first.ok1) (hl : l.length ≤ 1000000000) (hx : ∀ q ∈ l, q.nw)
    (hB : ∀ q ∈ l, ∀ x ∈ q.arms, ∀ (a : Nat) (m : M), a < m.nb → ∀ n : Int, 0 ≤ n → n + 1000001 * (wb x.vars x.eqs : Int) ≤ 2 ^ 62 → ACalls Tryz.prog 15 [.bp a 0, bkPV x.vars x.eqs] (cnt a m n) (fun v m' => ∃ V' Q' c, v = bkPV V' Q' ∧ (sb x.vars x.eqs V' Q' = true ∧ n ≤ c ∧ c ≤ n + 1000001 * (wb x.vars x.eqs : Int)) ∧ m' = cnt a m c))
    (a : Nat) (m : M) (hA : a < m.nb) (n : Int) (hn0 : 0 ≤ n) (hnw : n + 1000001 * (wtB wb vs l : Int) ≤ 2 ^ 62) :
    ACalls Tryz.prog 15 [.bp a 0, bkPV vs l] (cnt a m n) (fun v m' => ∃ V' Q' c, v = bkPV V' Q' ∧ (smB sb vs l V' Q' = true ∧ n ≤ c ∧ c ≤ n + 1000001 * (wtB wb vs l : Int)) ∧ m' = cnt a m c) := by
 have hVs := same_plVs vs n
 have hvx : ∀ v ∈ vs, v.first.nar := fun v hv => (hvo v hv).1
 have hwB : (wtB wb vs l : Int) = (vs.length : Int) + ((l.map (wtQ wb)).sum : Int) := by unfold wtB; omega
 have hVc := plVs_cnt vs n (fun v hv => (hvo v hv).2) hn0 (by omega)
 refine eN [4, 5, 7, 12] Tryz.func15 ?_
 (repeat revert X); refine wE (And.intro tfTpK hA) ?_; repeat intro X hX
 refine callM (cvars_any vs hvl hvx a _ xA n) ?_
 rintro v m' ⟨rfl, rfl⟩
 generalize plVs vs n = V at *
 refine wS (And.intro tfTpK hA) ?_
 (repeat revert X); refine wE aEQ_t ?_; repeat intro X hX
 obtain ⟨I, hI⟩ : ∃ I : F → M → Prop, ∀ f m', I f m' = (∃ (k : Nat) (o : Own) (mm : M) (r : List (Option (List PV))) (P : List Qu) (c : Int), k ≤ l.length ∧ P.length = k ∧ (sameL (smQ sb) (l.take k) P = true ∧ n ≤ c ∧ c ≤ n + 1000001 * ((vs.length : Int) + (((l.take k).map (wtQ wb)).sum : Int))) ∧ f 0 = .bp a 0 ∧ f 3 = .ep [.sl .no (vs.map Va.pv), .sl .no (l.map Qu.pv)] ∧ f 4 = .bp m.nb 0 ∧ f 5 = .bp (m.nb + 1) 0 ∧ f 6 = pI k ∧
  m' = cnt a (mm.ext (some [.sl .full [], .sl .full []] :: some [.sl .no (V.1.map Va.pv), .sl o (P.map Qu.pv)] :: r)) c ∧ Toks m mm ∧ Mine m mm o 16) := ⟨_, fun _ _ => rfl⟩
 refine aLoop I (fun f m => l.length - numOf (f 6)) ?_ ?_
 ·rw [hI]; exact ⟨0, .full, m, [], [], _, by omega, rfl, ⟨rfl, hVc.1, by simpa using hVc.2⟩, rfl, rfl, rfl, rfl, rfl, rfl, .refl m, .full⟩
 intro f m' hrel
 rw [hI] at hrel
 obtain ⟨k, o, mm, r, P, c, hk, hPl, ⟨hPs, hc0, hc1⟩, f0, f3, f4, f5, f6, rfl, ht, ho⟩ := hrel
 have hnb := ht.nb
 have hAm : a < mm.nb := by omega
 cases c1 : decide ((k : Int) < (l.length : Int)) with
 | false =>
  have hk' : k = l.length := by simp at c1; omega
  subst hk'
  rw [List.take_length] at hPs hc1
  (repeat revert X); refine wE (And.intro tfTpK (And.intro f3 (And.intro f4 (And.intro f5 (And.intro f6 (And.intro c1 (And.intro hnb (And.intro hA @pI.eq_1)))))))) ?_; repeat intro X hX
  refine wQ Tryz.results15 (And.intro tfTpK (And.intro f4 (And.intro hnb hA))) ?_
  exact leave_cnt hA ht rfl ⟨_, _, _, rfl, ⟨by unfold smB; rw [hVs, hPs]; rfl, hc0, by rw [hwB]; exact hc1⟩, rfl⟩
 | true =>
 have hlt : k < l.length := by simpa using c1
 have hg := getD_map Qu.pv l k hlt
 have hi : IntKind.i64.wrap ((k : Int) + 1) = ((k + 1 : Nat) : Int) := by rw [wrap64 (by omega)]; omega
 have hme : numOf (f 6) = k := by rw [f6]; exact Int.toNat_natCast k
 have htk : l.take (k + 1) = l.take k ++ [l[k]] := List.take_succ_eq_append_getElem hlt
 obtain ⟨⟨hqe, hqs⟩, ⟨hqal, hqan, hqas⟩, ⟨hml, hmw⟩⟩ := hx _ (List.getElem_mem hlt)
 have hBx := hB _ (List.getElem_mem hlt)
 have hsk := sum_takeS (wtQ wb) l k hlt
 have hsk1 : ((l.take (k + 1)).map (wtQ wb)).sum = ((l.take k).map (wtQ wb)).sum + wtQ wb l[k] := by rw [htk, List.map_append, List.sum_append]; simp
 clear hx hB
 generalize l[k] = x at *
 (repeat (first | refine aSeq fun X hX => ?_ | refine aSkip ?_ | (first | apply aReg | apply aIf); simp -implicitDefEqProofs only [↓slp, slb, ↓reduceIte, reduceCtorEq, jA, jB, jE, jF, tfTpK, f0, f3, f6, c1, hg, hnb, hA, pI, List.getElem?_concat_length, set_concat_length] | apply hX; clear hX X | intro hlen; unfold maxLen at hlen | apply And.intro; focus omega))
 refine callM (cnext_any a _ xA _) ?_
 rintro v m' ⟨rfl, rfl⟩
 simp -implicitDefEqProofs only [↓slp, slb, ↓reduceIte, reduceCtorEq, jA, jB, jE, jF, tfTpK, f6, hnb, hA, pI, List.getElem?_concat_length, set_concat_length]
 (repeat (first | refine aSeq fun X hX => ?_ | refine aReg ?_; simp -implicitDefEqProofs only [↓slp, slb, ↓reduceIte, reduceCtorEq, jA, jB, jE, jF, tfTpK, f0, hnb, hA, List.getElem?_concat_length]; try simp only [fo] | apply hX; clear hX X))
 refine callM (cexpr_any x.e hqe a _ (by rw [ext_nb]; omega) _) ?_
 rintro v m' ⟨rfl, rfl⟩
 have hEs := same_plE x.e (nxt c)
 have hnc : nxt c = c + 1 := nxt_id (by omega) (by have := wtQ_pos wb x; omega)
 have hEc := plE_cnt x.e (nxt c) (by omega) (by have := wtQ_pos wb x; omega)
 generalize plE x.e (nxt c) = q at *
 simp -implicitDefEqProofs only [↓slp, slb, ↓reduceIte, reduceCtorEq, jA, jB, jE, jF, tfTpK, f6, hnb, hA, pI, List.getElem?_concat_length, set_concat_length]; try simp only [fo]
 (repeat revert X); refine wE (And.intro tfTpK (And.intro f6 @pI.eq_1)) ?_; repeat intro X hX
 obtain ⟨J, hJ⟩ : ∃ J : F → M → Prop, ∀ f m', J f m' = (∃ (j : Nat) (o2 : Own) (mn : M), j ≤ x.args.length ∧ f 0 = .bp a 0 ∧ f 3 = .ep [.sl .no (vs.map Va.pv), .sl .no (l.map Qu.pv)] ∧ f 4 = .bp m.nb 0 ∧ f 5 = .bp (m.nb + 1) 0 ∧ f 6 = pI k ∧ f 7 = .bp (m.nb + (r.length + 1 + 1)) 0 ∧ f 8 = .sl o2 ((plEs (x.args.take j) q.2).1.map Ex.pv) ∧ f 9 = pI j ∧
  m' = cnt a (mn.ext (some [.sl .full [], .sl .full []] :: some [.sl .no (V.1.map Va.pv), .sl o (P.map Qu.pv)] :: (r ++ [some [.v (.int .u8 x.kind), .sl .no (x.lhs.map pS), .v (.string x.name), .sl .no (x.args.map Ex.pv), .v (.bool x.has), .v (.int .u8 q.1.kind), .v (.int .u8 q.1.op), .v (.int .i32 q.1.n), .v (.string q.1.name), .sl .no (q.1.names.map pS), .sl .no (q.1.kids.map Ex.pv), .v (.int .i64 q.1.line), .v (.int .i64 q.1.col), .sl .no (x.arms.map Am.pv), .v (.int .i64 (nxt c)), .v (.int .i64 1)]]))) (plEs (x.args.take j) q.2).2 ∧ Toks m mn ∧ Mine m mn o 16 ∧ Mine m mn o2 8 ∧ (∀ t, o2 = .tok t → o ≠ .tok t)) := ⟨_, fun _ _ => rfl⟩
 refine aLoop J (fun f m => x.args.length - numOf (f 9)) ?_ ?_
 ·rw [hJ]; exact ⟨0, .full, mm, by omega, f0, f3, f4, f5, f6, by rw [← hnb]; rfl, rfl, rfl, rfl, ht, ho, .full, fun t h => by cases h⟩
 clear f0 f3 f4 f5 ht ho hnb hAm
 intro g m' hrel
 rw [hJ] at hrel
 obtain ⟨j, o2, mn, hj, f0, f3, f4, f5, f6', f7, f8, f9, rfl, ht, ho, ho2, hne⟩ := hrel
 have hnb := ht.nb
 have hAm : a < mn.nb := by omega
 cases c2 : decide ((j : Int) < (x.args.length : Int)) with
 | true =>
  have hjl : j < x.args.length := by simpa using c2
  have hgj := getD_map Ex.pv x.args j hjl
  have hji : IntKind.i64.wrap ((j : Int) + 1) = ((j + 1 : Nat) : Int) := by rw [wrap64 (by omega)]; omega
  have hjm : numOf (g 9) = j := by rw [f9]; exact Int.toNat_natCast j
  have hjk : x.args.take (j + 1) = x.args.take j ++ [x.args[j]] := List.take_succ_eq_append_getElem hjl
  have hjn := plEs_snoc (x.args.take j) x.args[j] q.2
  rw [← hjk] at hjn
  have hjlen := plEs_len (x.args.take j) q.2
  rw [List.length_take, Nat.min_eq_left hj] at hjlen
  have hyn := Ex.nars_mem _ hqan _ (List.getElem_mem hjl)
  generalize x.args[j] = y at *
  generalize hR : plEs (x.args.take j) q.2 = R at *
  (repeat (first | refine aSeq fun X hX => ?_ | refine aBlk ?_ | refine aSkip ?_ | (first | apply aReg | apply aIf); simp -implicitDefEqProofs only [↓slp, slb, ↓reduceIte, reduceCtorEq, jA, jB, jD, jE, jF, tfTpK, f0, f7, f8, f9, c2, hgj, hnb, hA, pI, List.getElem?_concat_length]; try simp only [fo] | apply hX; clear hX X | intro hlen; unfold maxLen at hlen | apply And.intro; focus omega))
  refine callM (cexpr_any y hyn a _ (by rw [ext_nb]; omega) _) ?_
  rintro v m' ⟨rfl, rfl⟩
  generalize plE y R.2 = z at *
  have hfree := ho2.free
  have q1 : R.1.length + 1 ≤ maxLen := by unfold maxLen; omega
  have q2 : (R.1.length + 1) * 88 ≤ 140737488355328 := by omega
  have q3 := ex_len R.1
  refine wS (And.intro tfTpK (And.intro f9 @pI.eq_1)) ?_
  (repeat (first | refine aReg ?_; simp -implicitDefEqProofs only [↓slp, slb, ↓reduceIte, jA, jF, tfTpK, f9, hji, pI]; try simp only [fo] | apply hX; clear hX X | apply And.intro; focus ((repeat' apply And.intro) <;> first | omega | assumption)))
  rw [hJ]
  exact ⟨⟨j + 1, .tok mn.nt, _, hjl, f0, f3, f4, f5, f6', f7, by rw [hjn, List.map_append]; rfl, rfl, by rw [hjn], ht.use ho2, Mine.other ho hne, Mine.new ht o2 8, ho.ne_new⟩, by omega⟩
 | false =>
  have hj' : j = x.args.length := by simp at c2; omega
  subst hj'
  rw [List.take_length] at f8
  rw [List.take_length]
  have hRs := same_plEs x.args q.2
  have hwq : (wtQ wb x : Int) = 1 + (x.lhs.length : Int) + (x.args.length : Int) + ((x.arms.map (wtA wb)).sum : Int) := by unfold wtQ; omega
  have hRc := plEs_cnt x.args q.2 hqas (by omega) (by omega)
  generalize plEs x.args q.2 = R at *
  (repeat (first | refine aSeq fun X hX => ?_ | refine aBlk ?_ | refine aExit ?_; try simp only [slx, ↓reduceIte, jA, reduceCtorEq] | (first | apply aReg | apply aIf); simp -implicitDefEqProofs only [↓slp, slb, ↓reduceIte, reduceCtorEq, jA, jB, jD, jE, jF, tfTpK, f7, f8, f9, c2, hnb, hA, pI, List.getElem?_concat_length, set_concat_length] | apply hX; clear hX X | clear hX X; apply hX; clear hX X | intro hlen; unfold maxLen at hlen))
  obtain ⟨K, hK⟩ : ∃ K : F → M → Prop, ∀ f m', K f m' = (∃ (j : Nat) (o3 : Own) (mn : M) (rr : List (Option (List PV))) (A : List Am) (c3 : Int), j ≤ x.arms.length ∧ A.length = j ∧ (sameL (smA sb) (x.arms.take j) A = true ∧ R.2 ≤ c3 ∧ c3 ≤ R.2 + 1000001 * (((x.arms.take j).map (wtA wb)).sum : Int)) ∧ f 0 = .bp a 0 ∧ f 3 = .ep [.sl .no (vs.map Va.pv), .sl .no (l.map Qu.pv)] ∧ f 4 = .bp m.nb 0 ∧ f 5 = .bp (m.nb + 1) 0 ∧ f 6 = pI k ∧ f 7 = .bp (m.nb + (r.length + 1 + 1)) 0 ∧ f 10 = .sl o3 (A.map Am.pv) ∧ f 11 = pI j ∧
   m' = cnt a (mn.ext (some [.sl .full [], .sl .full []] :: some [.sl .no (V.1.map Va.pv), .sl o (P.map Qu.pv)] :: (r ++ some [.v (.int .u8 x.kind), .sl .no (x.lhs.map pS), .v (.string x.name), .sl o2 (R.1.map Ex.pv), .v (.bool x.has), .v (.int .u8 q.1.kind), .v (.int .u8 q.1.op), .v (.int .i32 q.1.n), .v (.string q.1.name), .sl .no (q.1.names.map pS), .sl .no (q.1.kids.map Ex.pv), .v (.int .i64 q.1.line), .v (.int .i64 q.1.col), .sl .no (x.arms.map Am.pv), .v (.int .i64 (nxt c)), .v (.int .i64 1)] :: rr))) c3 ∧ Toks m mn ∧ Mine m mn o 16 ∧ Mine m mn o3 7 ∧ (∀ t, o3 = .tok t → o ≠ .tok t)) := ⟨_, fun _ _ => rfl⟩
  refine aLoop K (fun f m => x.arms.length - numOf (f 11)) ?_ ?_
  ·rw [hK]; exact ⟨0, .full, mn, [], [], _, by omega, rfl, ⟨rfl, by omega, by simp⟩, f0, f3, f4, f5, f6', f7, rfl, rfl, rfl, ht, ho, .full, fun t h => by cases h⟩
  clear f0 f3 f4 f5 f6' f7 f8 f9 ht ho ho2 hne hnb hAm
  intro g1 m' hrel
  rw [hK] at hrel
  obtain ⟨j, o3, mn, rr, A, c3, hj, hAl, ⟨hAs, hd0, hd1⟩, f0, f3, f4, f5, f6', f7, f10, f11, rfl, ht, ho, ho3, hne⟩ := hrel
  have hnb := ht.nb
  have hAm : a < mn.nb := by omega
  cases c2 : decide ((j : Int) < (x.arms.length : Int)) with
  | true =>
   have hjl : j < x.arms.length := by simpa using c2
   have hgj := getD_map Am.pv x.arms j hjl
   have hji : IntKind.i64.wrap ((j : Int) + 1) = ((j + 1 : Nat) : Int) := by rw [wrap64 (by omega)]; omega
   have hjm : numOf (g1 11) = j := by rw [f11]; exact Int.toNat_natCast j
   have hjk : x.arms.take (j + 1) = x.arms.take j ++ [x.arms[j]] := List.take_succ_eq_append_getElem hjl
   obtain ⟨⟨hul, hun⟩, ⟨htl, htn⟩⟩ := hmw _ (List.getElem_mem hjl)
   have hsj := sum_takeS (wtA wb) x.arms j hjl
   have hsj1 : ((x.arms.take (j + 1)).map (wtA wb)).sum = ((x.arms.take j).map (wtA wb)).sum + wtA wb x.arms[j] := by rw [hjk, List.map_append, List.sum_append]; simp
   have hwy : (wtA wb x.arms[j] : Int) = 1 + (x.arms[j].unl.length : Int) + (x.arms[j].til.length : Int) + (wb x.arms[j].vars x.arms[j].eqs : Int) := by unfold wtA; omega
   have hBy := hBx _ (List.getElem_mem hjl)
   generalize x.arms[j] = y at *
   (repeat (first | refine aSeq fun X hX => ?_ | refine aSkip ?_ | (first | apply aReg | apply aIf); simp -implicitDefEqProofs only [↓slp, slb, ↓reduceIte, reduceCtorEq, jA, jB, jD, jE, jF, tfTpK, f0, f7, f11, c2, hgj, hnb, hA, pI, appQ, appA, appAs, List.append_assoc, List.length_append] | apply hX; clear hX X | intro hlen; unfold maxLen at hlen | apply And.intro; focus omega))
   refine callM (cnext_any a _ (by rw [ext_nb]; omega) _) ?_
   rintro v m' ⟨rfl, rfl⟩
   simp -implicitDefEqProofs only [↓slp, slb, ↓reduceIte, reduceCtorEq, jA, jB, jE, jF, tfTpK, f11, hnb, hA, pI, appA, appAs]
   (repeat (first | refine aSeq fun X hX => ?_ | refine aReg ?_; simp -implicitDefEqProofs only [↓slp, slb, ↓reduceIte, reduceCtorEq, jA, jB, jD, jF, tfTpK, f0, hnb, hA, appA] | apply hX; clear hX X))
   refine callM (cways_any y.unl hul (fun t ht => (hun t ht).1) a _ (by rw [ext_nb]; omega) _) ?_
   rintro v m' ⟨rfl, rfl⟩
   have hUs := same_plTs y.unl (nxt c3)
   have hnd : nxt c3 = c3 + 1 := nxt_id (by omega) (by omega)
   have hUc := plTs_cnt y.unl (nxt c3) (fun t ht => (hun t ht).2) (by omega) (by omega)
   generalize plTs y.unl (nxt c3) = U at *
   simp -implicitDefEqProofs only [↓slp, slb, ↓reduceIte, reduceCtorEq, jA, jB, jE, jF, tfTpK, f11, hnb, hA, pI, appA, appAs]
   (repeat (first | refine aSeq fun X hX => ?_ | refine aReg ?_; simp -implicitDefEqProofs only [↓slp, slb, ↓reduceIte, reduceCtorEq, jA, jB, jE, jF, tfTpK, f0, hnb, hA, appA] | apply hX; clear hX X))
   refine callM (hBy a _ (by rw [ext_nb]; omega) _ (by omega) (by omega)) ?_
   rintro v m' ⟨V', Q', c4, rfl, ⟨hbs, hb0, hb1⟩, rfl⟩
   simp -implicitDefEqProofs only [↓slp, slb, ↓reduceIte, reduceCtorEq, jA, jB, jE, jF, tfTpK, f11, hnb, hA, pI, appA, appAs]
   (repeat (first | refine aSeq fun X hX => ?_ | refine aReg ?_; simp -implicitDefEqProofs only [↓slp, slb, ↓reduceIte, reduceCtorEq, jA, jB, jD, jF, tfTpK, f0, hnb, hA, appA] | apply hX; clear hX X))
   refine callM (cways_any y.til htl (fun t ht => (htn t ht).1) a _ (by rw [ext_nb]; omega) _) ?_
   rintro v m' ⟨rfl, rfl⟩
   have hWs := same_plTs y.til c4
   have hWc := plTs_cnt y.til c4 (fun t ht => (htn t ht).2) (by omega) (by omega)
   generalize plTs y.til c4 = W at *
   have hfree := ho3.free
   have q1 : A.length + 1 ≤ maxLen := by unfold maxLen; omega
   have q3 := ams_len A
   simp -implicitDefEqProofs only [↓slp, slb, ↓reduceIte, reduceCtorEq, jA, jB, jE, jF, tfTpK, f11, hnb, hA, pI, appA, appAs]
   (repeat (first | refine aReg ?_; simp -implicitDefEqProofs only [forall_eq, ↓slp, slb, ↓reduceIte, jA, jB, jC, jE, jF, tfTpK, f10, f11, hji, hnb, hA, pI, appA] | apply hX; clear hX X | apply And.intro; focus ((repeat' apply And.intro) <;> first | omega | assumption)))
   have hym : smA sb y (Am.mk y.name V' Q' U.1 W.1 (nxt c3) 1) = true := by
    show (eqS y.name y.name && sb y.vars y.eqs V' Q' && sameL smT y.unl U.1 && sameL smT y.til W.1) = true
    rw [show eqS y.name y.name = true from eqS_iff.2 rfl, hbs, hUs, hWs]; rfl
   rw [hK]
   exact ⟨⟨j + 1, .tok mn.nt, _, rr ++ [_], A ++ [Am.mk y.name V' Q' U.1 W.1 (nxt c3) 1], _, hjl, by simp [hAl], ⟨by rw [hjk]; exact sameL_snoc hAs hym, by omega, by rw [hsj1]; omega⟩, f0, f3, f4, f5, f6', f7, by rw [List.map_append, List.map_cons, List.map_nil, Am.pv_eq]; rfl, rfl, rfl, ht.use ho3, Mine.other ho hne, Mine.new ht o3 7, ho.ne_new⟩, by omega⟩
  | false =>
   have hj' : j = x.arms.length := by simp at c2; omega
   subst hj'
   rw [List.take_length] at hAs hd1
   have hfree := ho.free
   have q1 : P.length + 1 ≤ maxLen := by unfold maxLen; omega
   have q3 := qu_len P
   (repeat (first | refine aSeq fun X hX => ?_ | refine aExit ?_; try simp only [slx, ↓reduceIte, jA, reduceCtorEq] | (first | apply aReg | apply aIf); simp -implicitDefEqProofs only [forall_eq, ↓slp, slb, ↓reduceIte, reduceCtorEq, jA, jB, jC, jD, jE, jF, tfTpK, f5, f6', f7, f10, f11, c2, hi, hnb, hA, pI, appQ, appQs] | apply hX; clear hX X | clear hX X; apply hX; clear hX X | intro hlen; unfold maxLen at hlen | apply And.intro; focus ((repeat' apply And.intro) <;> first | omega | assumption)))
   have hxm : smQ sb x (Qu.mk x.kind x.lhs x.name R.1 x.has q.1 A (nxt c) 1) = true := by
    show ((x.kind == x.kind) && sameL eqS x.lhs x.lhs && eqS x.name x.name && sameL Ex.same x.args R.1 && (x.has == x.has) && x.e.same q.1 && sameL (smA sb) x.arms A) = true
    rw [show eqS x.name x.name = true from eqS_iff.2 rfl, show sameL eqS x.lhs x.lhs = true from (sameL_iff (fun a b => eqS_iff)).2 rfl, hRs, hEs, hAs]; simp
   rw [hI]
   exact ⟨⟨k + 1, .tok mn.nt, _, r ++ _ :: rr, P ++ [Qu.mk x.kind x.lhs x.name R.1 x.has q.1 A (nxt c) 1], c3, hlt, by simp [hPl], ⟨by rw [htk]; exact sameL_snoc hPs hxm, by omega, by rw [hsk1]; omega⟩, f0, f3, f4, f5, rfl, by rw [List.map_append, List.map_cons, List.map_nil, Qu.pv_eq]; rfl, ht.use ho, Mine.new ht o 16⟩, by omega⟩
theorem cblock_rel : ∀ (d : Nat) (vs : List Va) (l : List Qu), NwB d vs l → ∀ (a : Nat) (m : M), a < m.nb → ∀ n : Int, 0 ≤ n → n + 1000001 * (wtF d vs l : Int) ≤ 2 ^ 62 → ACalls Tryz.prog 15 [.bp a 0, bkPV vs l] (cnt a m n) (fun v m' => ∃ V' Q' c, v = bkPV V' Q' ∧ (smF d vs l V' Q' = true ∧ n ≤ c ∧ c ≤ n + 1000001 * (wtF d vs l : Int)) ∧ m' = cnt a m c)
 | 0, vs, l, h, a, m, hA, n, h0, hn => cblock_step (wb := fun _ _ => 0) vs l h.1 h.2.1 h.2.2.1 (fun q hq => (h.2.2.2 q hq).1) (fun q hq x hx => by have := (h.2.2.2 q hq).2; rw [this] at hx; cases hx) a m hA n h0 hn
 | d + 1, vs, l, h, a, m, hA, n, h0, hn => cblock_step (wb := wtF d) vs l h.1 h.2.1 h.2.2.1 (fun q hq => (h.2.2.2 q hq).1) (fun q hq x hx a m hA n h0 hn => cblock_rel d x.vars x.eqs ((h.2.2.2 q hq).2 x hx) a m hA n h0 hn) a m hA n h0 hn

def tfTpO := And.intro @tfA (And.intro @Ex.settle_pv (And.intro @Ex.pure_pv (And.intro @Ex.cells_pv (And.intro @Ex.cs.eq_1 (And.intro @On.pv.eq_1 (And.intro @Ty.pv.eq_1 (And.intro @Va.settle_pv (And.intro @Va.pure_pv (And.intro @Va.cells_pv (And.intro @Va.cs.eq_1 (And.intro @No.settle_pv (And.intro @No.pure_pv (And.intro @No.cells_pv (And.intro @No.cs.eq_1 (And.intro @Qu.settle_pv (And.intro @En.settle_pv (And.intro @En.pure_pv (And.intro @En.cells_pv @En.cs.eq_1))))))))))))))))))

theorem cnt_liftR {P : Program} {mm : M} {a : Nat} (h : mm.nb + 1 = a) {f : FuncId} {args : List PV} {z : Option (List PV)} {r : List (Option (List PV))} {c : Int} {S : List Va → List Qu → Int → Prop}
    (hc : ACalls P f args (cnt a (mm.ext (z :: some (cN c) :: r)) c) (fun v m' => ∃ V' Q' c', v = bkPV V' Q' ∧ S V' Q' c' ∧ m' = cnt a (mm.ext (z :: some (cN c) :: r)) c')) : ACalls P f args (mm.ext (z :: some (cN c) :: r)) (fun v m' => ∃ V' Q' c', v = bkPV V' Q' ∧ S V' Q' c' ∧ m' = mm.ext (z :: some (cN c') :: r)) := by
 rw [cnt_mk h] at hc
 exact ACalls.mono hc fun v m' ⟨V', Q', c', h1, h2, h3⟩ => ⟨V', Q', c', h1, h2, by rw [h3, cnt_mk h]⟩
structure No.nw (d : Nat) (n : No) : Prop where
 ins : n.ins.length ≤ 1000000000 ∧ ∀ v ∈ n.ins, v.first.ok1
 outs : n.outs.length ≤ 1000000000 ∧ ∀ v ∈ n.outs, v.first.ok1
 b : NwB d n.b.vars n.b.eqs
 wt : wtF d n.b.vars n.b.eqs ≤ 2 ^ 32
def plEn (e : En) (c : Int) : En × Int := (⟨e.name, e.ctors, nxt c, 1⟩, nxt c)
def plEns : List En → Int → List En × Int
 | [], c => ([], c)
 | v :: l, c => ((plEn v c).1 :: (plEns l (plEn v c).2).1, (plEns l (plEn v c).2).2)
theorem plEns_snoc (l : List En) (x : En) : ∀ c, plEns (l ++ [x]) c = ((plEns l c).1 ++ [(plEn x (plEns l c).2).1], (plEn x (plEns l c).2).2) := by
 induction l with
 | nil => intro c; simp [plEns]
 | cons a l ih => intro c; simp [plEns, ih]
theorem plEns_len (l : List En) : ∀ c, (plEns l c).1.length = l.length := by
 induction l with
 | nil => intro c; rfl
 | cons a l ih => intro c; simp [plEns, ih]
theorem plEns_cnt : ∀ (l : List En) (c : Int), 0 ≤ c → c + (l.length : Int) ≤ 2 ^ 60 → (plEns l c).2 = c + (l.length : Int)
 | [], c, _, _ => by simp [plEns]
 | e :: l, c, h0, hc => by
  simp only [List.length_cons] at hc ⊢
  rw [plEns]
  show (plEns l (nxt c)).2 = _
  rw [nxt_id h0 (by omega), plEns_cnt l _ (by omega) (by omega)]
  omega
theorem en_len4 (l : List En) : ∀ x ∈ l.map En.pv, x.cells.length = 4 := fun x hx => by
 obtain ⟨a, _, rfl⟩ := List.mem_map.1 hx
 rfl
theorem same_plEns : ∀ (l : List En) (c : Int), sameL smE l (plEns l c).1 = true
 | [], c => rfl
 | e :: l, c => by
  rw [plEns]
  simp only [sameL, Bool.and_eq_true]
  refine ⟨?_, same_plEns l _⟩
  show (eqS e.name e.name && sameL eqS e.ctors e.ctors) = true
  rw [show eqS e.name e.name = true from eqS_iff.2 rfl, show sameL eqS e.ctors e.ctors = true from (sameL_iff (fun a b => eqS_iff)).2 rfl]; rfl
set_option maxHeartbeats 8000000 in
theorem placedP_any {d : Nat} (E : List En) (hEl : E.length ≤ 1000000000) (l : List No) (hl : l.length ≤ 100) (hx : ∀ n ∈ l, n.nw d) (m : M) :
    ACalls Tryz.prog 5 [prPV E l] m (fun v m' => (∃ E' l', v = prPV E' l' ∧ (sameL smE E E' && sameL (smN d) l l') = true) ∧ m' = m) := by
 refine eN [2, 4, 6, 8, 10] Tryz.func5 ?_
 (repeat revert X); refine wE tfTpO ?_; repeat intro X hX
 obtain ⟨I, hI⟩ : ∃ I : F → M → Prop, ∀ f m', I f m' = (∃ (k : Nat) (o : Own) (mm : M) (r : List (Option (List PV))), k ≤ E.length ∧ f 1 = .ep [.sl .no (E.map En.pv), .sl .no (l.map No.pv)] ∧ f 2 = .bp m.nb 0 ∧ f 3 = .bp (m.nb + 1) 0 ∧ f 4 = .bp (m.nb + 2) 0 ∧ f 5 = pI k ∧
  m' = mm.ext (some [.sl .full [], .sl .full []] :: some (cN (plEns (E.take k) 0).2) :: some [.sl o ((plEns (E.take k) 0).1.map En.pv), .sl .full []] :: r) ∧ Toks m mm ∧ Mine m mm o 4) := ⟨_, fun _ _ => rfl⟩
 refine aLoop I (fun f m => E.length - numOf (f 5)) ?_ ?_
 ·rw [hI]; exact ⟨0, .full, m, [], by omega, rfl, rfl, rfl, rfl, rfl, rfl, .refl m, .full⟩
 intro f m' hrel
 rw [hI] at hrel
 obtain ⟨k, o, mm, r, hk, f1, f2, f3, f4, f5, rfl, ht, ho⟩ := hrel
 have hnb := ht.nb
 have hA : mm.nb + 1 = m.nb + 1 := by omega
 cases c1 : decide ((k : Int) < (E.length : Int)) with
 | false =>
  have hk' : k = E.length := by simp at c1; omega
  subst hk'
  rw [List.take_length]
  have hEs := same_plEns E 0
  have hEc := plEns_cnt E 0 (Int.le_refl _) (by omega)
  generalize plEns E 0 = PE at *
  (repeat revert X); refine wE (And.intro tfTpO (And.intro f1 (And.intro f5 (And.intro c1 @pI.eq_1)))) ?_; repeat intro X hX
  generalize o = oE at *
  obtain ⟨I, hI⟩ : ∃ I : F → M → Prop, ∀ f m', I f m' = (∃ (k : Nat) (o : Own) (mm : M) (r : List (Option (List PV))) (P : List No) (c : Int), k ≤ l.length ∧ P.length = k ∧ (sameL (smN d) (l.take k) P = true ∧ 0 ≤ c ∧ c ≤ 1000000000 + (k : Int) * 2 ^ 53) ∧ f 1 = .ep [.sl .no (E.map En.pv), .sl .no (l.map No.pv)] ∧ f 2 = .bp m.nb 0 ∧ f 3 = .bp (m.nb + 1) 0 ∧ f 4 = .bp (m.nb + 2) 0 ∧ f 7 = pI k ∧
   m' = mm.ext (some [.sl .full [], .sl .full []] :: some (cN c) :: some [.sl oE (PE.1.map En.pv), .sl o (P.map No.pv)] :: r) ∧ Toks m mm ∧ Mine m mm o 7) := ⟨_, fun _ _ => rfl⟩
  refine aLoop I (fun f m => l.length - numOf (f 7)) ?_ ?_
  ·rw [hI]; exact ⟨0, .full, mm, r, [], _, by omega, rfl, ⟨rfl, by omega, by omega⟩, f1, f2, f3, f4, rfl, rfl, ht, .full⟩
  clear f1 f2 f3 f4 f5 ht ho hnb hA
  intro f m' hrel
  rw [hI] at hrel
  obtain ⟨k, o, mm, r, P, c, hk, hPl, ⟨hPs, hc0, hc1⟩, f1, f2, f3, f4, f7, rfl, ht, ho⟩ := hrel
  have hnb := ht.nb
  have hA : mm.nb + 1 = m.nb + 1 := by omega
  cases c1 : decide ((k : Int) < (l.length : Int)) with
  | false =>
   have hk' : k = l.length := by simp at c1; omega
   subst hk'
   rw [List.take_length] at hPs
   (repeat revert X); refine wE (And.intro tfTpO (And.intro f1 (And.intro f2 (And.intro f4 (And.intro f7 (And.intro c1 (And.intro hnb @pI.eq_1))))))) ?_; repeat intro X hX
   refine wQ Tryz.results5 (And.intro tfTpO (And.intro f2 hnb)) ?_
   exact leave_toks ht rfl ⟨⟨_, _, rfl, by rw [hEs, hPs]; rfl⟩, rfl⟩
  | true =>
  have hlt : k < l.length := by simpa using c1
  have hg := getD_map No.pv l k hlt
  have hi : IntKind.i64.wrap ((k : Int) + 1) = ((k + 1 : Nat) : Int) := by rw [wrap64 (by omega)]; omega
  have hme : numOf (f 7) = k := by rw [f7]; exact Int.toNat_natCast k
  have htk : l.take (k + 1) = l.take k ++ [l[k]] := List.take_succ_eq_append_getElem hlt
  obtain ⟨⟨hi1, hi2⟩, ⟨ho1, ho2⟩, hnw, hwt⟩ := hx _ (List.getElem_mem hlt)
  have hnc : nxt c = c + 1 := nxt_id hc0 (by omega)
  have hwt' : (wtF d l[k].b.vars l[k].b.eqs : Int) ≤ 2 ^ 32 := by exact_mod_cast hwt
  generalize l[k] = x at *
  (repeat (first | refine aSeq fun X hX => ?_ | refine aSkip ?_ | (first | apply aReg | apply aIf); simp -implicitDefEqProofs only [↓slp, slb, ↓reduceIte, reduceCtorEq, jA, jB, jE, jF, tfTpO, f1, f3, f7, c1, hg, hnb, pI, List.getElem?_concat_length, set_concat_length] | apply hX; clear hX X | intro hlen; unfold maxLen at hlen | apply And.intro; focus omega))
  refine callE (cnt_lift hA (cnext_any _ _ (cnt_in hA) _)) ?_
  simp -implicitDefEqProofs only [↓slp, slb, ↓reduceIte, reduceCtorEq, jA, jB, jE, jF, tfTpO, f7, hnb, pI, List.getElem?_concat_length, set_concat_length]
  (repeat (first | refine aSeq fun X hX => ?_ | refine aReg ?_; simp -implicitDefEqProofs only [↓slp, slb, ↓reduceIte, reduceCtorEq, jA, jB, jD, jF, tfTpO, f3, hnb, List.getElem?_concat_length] | apply hX; clear hX X))
  refine callE (cnt_lift hA (cvars_any x.ins hi1 (fun v hv => (hi2 v hv).1) _ _ (cnt_in hA) _)) ?_
  have hs1 := same_plVs x.ins (nxt c)
  have hv1 := plVs_cnt x.ins (nxt c) (fun v hv => (hi2 v hv).2) (by omega) (by omega)
  generalize plVs x.ins (nxt c) = V1 at *
  simp -implicitDefEqProofs only [↓slp, slb, ↓reduceIte, reduceCtorEq, jA, jB, jE, jF, tfTpO, f7, hnb, pI, List.getElem?_concat_length, set_concat_length]
  (repeat (first | refine aSeq fun X hX => ?_ | refine aReg ?_; simp -implicitDefEqProofs only [↓slp, slb, ↓reduceIte, reduceCtorEq, jA, jB, jD, jF, tfTpO, f3, hnb, List.getElem?_concat_length] | apply hX; clear hX X))
  refine callE (cnt_lift hA (cvars_any x.outs ho1 (fun v hv => (ho2 v hv).1) _ _ (cnt_in hA) _)) ?_
  have hs2 := same_plVs x.outs V1.2
  have hv2 := plVs_cnt x.outs V1.2 (fun v hv => (ho2 v hv).2) (by omega) (by omega)
  generalize plVs x.outs V1.2 = V2 at *
  simp -implicitDefEqProofs only [↓slp, slb, ↓reduceIte, reduceCtorEq, jA, jB, jE, jF, tfTpO, f7, hnb, pI, List.getElem?_concat_length, set_concat_length]
  (repeat (first | refine aSeq fun X hX => ?_ | refine aReg ?_; simp -implicitDefEqProofs only [↓slp, slb, ↓reduceIte, reduceCtorEq, jA, jB, jE, jF, tfTpO, f3, hnb, List.getElem?_concat_length] | apply hX; clear hX X))
  refine callM (cnt_liftR (S := fun V' Q' c' => smF d x.b.vars x.b.eqs V' Q' = true ∧ V2.2 ≤ c' ∧ c' ≤ V2.2 + 1000001 * (wtF d x.b.vars x.b.eqs : Int)) hA (cblock_rel d x.b.vars x.b.eqs hnw _ _ (cnt_in hA) V2.2 (by omega) (by omega))) ?_
  rintro v m' ⟨V', Q', c4, rfl, ⟨hs3, hb0, hb1⟩, rfl⟩
  have hfree := ho.free
  have q1 : P.length + 1 ≤ maxLen := by unfold maxLen; omega
  have q2 : (P.length + 1) * 136 ≤ 140737488355328 := by omega
  have q3 := no_len7 P
  simp -implicitDefEqProofs only [↓slp, slb, ↓reduceIte, reduceCtorEq, jA, jB, jE, jF, tfTpO, f7, hnb, pI, List.getElem?_concat_length, set_concat_length]
  (repeat (first | refine aReg ?_; simp -implicitDefEqProofs only [forall_eq, ↓slp, slb, ↓reduceIte, reduceCtorEq, jA, jB, jC, jE, jF, tfTpO, f4, f7, hi, hnb, pI, List.getElem?_concat_length] | apply hX; clear hX X | apply And.intro; focus ((repeat' apply And.intro) <;> first | omega | assumption)))
  rw [hI]
  have hxm : smN d x ⟨x.name, V1.1, V2.1, ⟨V', Q'⟩, nxt c, 1⟩ = true := by
   show (eqS x.name x.name && sameL Va.same x.ins V1.1 && sameL Va.same x.outs V2.1 && smF d x.b.vars x.b.eqs V' Q') = true
   rw [show eqS x.name x.name = true from eqS_iff.2 rfl, hs1, hs2, hs3]; rfl
  exact ⟨⟨k + 1, .tok mm.nt, _, r ++ [_], P ++ [⟨x.name, V1.1, V2.1, ⟨V', Q'⟩, nxt c, 1⟩], c4, hlt, by simp [hPl], ⟨by rw [htk]; exact sameL_snoc hPs hxm, by omega, by omega⟩, f1, f2, f3, f4, rfl, by rw [List.map_append, List.map_cons, List.map_nil]; rfl, ht.use ho, Mine.new ht o 7⟩, by omega⟩
 | true =>
 have hlt : k < E.length := by simpa using c1
 have hg := getD_map En.pv E k hlt
 have hi : IntKind.i64.wrap ((k : Int) + 1) = ((k + 1 : Nat) : Int) := by rw [wrap64 (by omega)]; omega
 have hme : numOf (f 5) = k := by rw [f5]; exact Int.toNat_natCast k
 have htk : E.take (k + 1) = E.take k ++ [E[k]] := List.take_succ_eq_append_getElem hlt
 have hsn := plEns_snoc (E.take k) E[k] 0
 rw [← htk] at hsn
 have hlen := plEns_len (E.take k) 0
 rw [List.length_take, Nat.min_eq_left hk] at hlen
 generalize E[k] = x at *
 generalize hP : plEns (E.take k) 0 = P at *
 have hpn : plEn x P.2 = (⟨x.name, x.ctors, nxt P.2, 1⟩, nxt P.2) := rfl
 (repeat (first | refine aSeq fun X hX => ?_ | refine aSkip ?_ | (first | apply aReg | apply aIf); simp -implicitDefEqProofs only [↓slp, slb, ↓reduceIte, reduceCtorEq, jA, jB, jE, jF, tfTpO, f1, f3, f5, c1, hg, hnb, pI, List.getElem?_concat_length, set_concat_length] | apply hX; clear hX X | intro hlen; unfold maxLen at hlen | apply And.intro; focus omega))
 refine callE (cnt_lift hA (cnext_any _ _ (cnt_in hA) _)) ?_
 have hfree := ho.free
 have q1 : P.1.length + 1 ≤ maxLen := by unfold maxLen; omega
 have q3 := en_len4 P.1
 simp -implicitDefEqProofs only [↓slp, slb, ↓reduceIte, reduceCtorEq, jA, jB, jE, jF, tfTpO, f5, hnb, pI, List.getElem?_concat_length, set_concat_length]
 (repeat (first | refine aReg ?_; simp -implicitDefEqProofs only [forall_eq, ↓slp, slb, ↓reduceIte, reduceCtorEq, jA, jB, jC, jE, jF, tfTpO, f4, f5, hi, hnb, pI, List.getElem?_concat_length] | apply hX; clear hX X | apply And.intro; focus ((repeat' apply And.intro) <;> first | omega | assumption)))
 rw [hI]
 exact ⟨⟨k + 1, .tok mm.nt, _, r ++ [_], hlt, f1, f2, f3, f4, rfl, by rw [hsn, hpn, List.map_append, List.map_cons, List.map_nil]; rfl, ht.use ho, Mine.new ht o 4⟩, by omega⟩
end Go.Proofs.YthhhnfjcaicjnaaGreatDoor
