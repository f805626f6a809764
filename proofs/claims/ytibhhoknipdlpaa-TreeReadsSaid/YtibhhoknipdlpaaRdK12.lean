/-
  Part 12 of what stands ahead of the law.
-/
import Derived.Test.YtibhhoknipdlpaaRdK11
import Derived.Test.YtibhhoknipdlpaaAbFn
import Derived.Deep.Slices
import Derived.ChangeArms
import Derived.ProofKit
import Derived.OpenShut
import Derived.Carry
/-
  The maker: a program.
-/
set_option linter.unusedVariables false
set_option linter.unusedSimpArgs false
namespace Go.Proofs.Ytibhhoknipdlpaa
open Go
set_option linter.defProp false
def tfAbMk18 := And.intro @td_3 (And.intro @zv_3 (And.intro @Try.underlying3 (And.intro @td_4 (And.intro @zv_4 (And.intro @Try.underlying4 (And.intro @td_5 (And.intro @zv_5 (And.intro @Try.underlying5 (And.intro @td_9 (And.intro @zv_9 (And.intro @Try.underlying9 (And.intro @td_21 (And.intro @zv_21 (And.intro @Try.underlying21 (And.intro @td_22 (And.intro @zv_22 (And.intro @tel_22 (And.intro @Try.underlying22 (And.intro @td_25 (And.intro @zv_25 (And.intro @tel_25 (And.intro @Try.underlying25 (And.intro @td_26 (And.intro @zv_26 (And.intro @tel_26 (And.intro @Try.underlying26 (And.intro @td_28 (And.intro @zv_28 (And.intro @tf_28 (And.intro @td_30 (And.intro @zv_30 (And.intro @tel_30 (And.intro @Try.underlying30 (And.intro @td_32 (And.intro @zv_32 (And.intro @tel_32 (And.intro @Try.underlying32 (And.intro @td_33 (And.intro @zv_33 (And.intro @tel_33 (And.intro @Try.underlying33 (And.intro @td_35 (And.intro @zv_35 (And.intro @tf_35 (And.intro @td_39 (And.intro @zv_39 (And.intro @tf_39 (And.intro @td_41 (And.intro @zv_41 (And.intro @tel_41 (And.intro @Try.underlying41 (And.intro @td_44 (And.intro @zv_44 (And.intro @tf_44 (And.intro @td_49 (And.intro @zv_49 (And.intro @tf_49 (And.intro @fl_49 (And.intro @td_50 (And.intro @zv_50 (And.intro @tel_50 (And.intro @Try.underlying50 (And.intro @td_52 (And.intro @zv_52 (And.intro @tf_52 (And.intro @td_68 (And.intro @zv_68 (And.intro @tf_68 (And.intro @td_92 (And.intro @zv_92 (And.intro @td_94 (And.intro @zv_94 (And.intro @tf_94 (And.intro @td_96 (And.intro @zv_96 (And.intro @td_98 (And.intro @zv_98 (And.intro @tf_98 (And.intro @td_144 (And.intro @zv_144 (And.intro @tf_144 (And.intro @Ex.settle_pv (And.intro @Ex.pure_pv (And.intro @Ex.cells_pv (And.intro @Ex.cs.eq_1 (And.intro @On.pv.eq_1 (And.intro @Ty.pv.eq_1 (And.intro @Va.settle_pv (And.intro @Va.pure_pv (And.intro @Va.cells_pv (And.intro @Va.cs.eq_1 (And.intro @No.settle_pv (And.intro @No.pure_pv (And.intro @No.cells_pv (And.intro @upd_nb @upd_nt)))))))))))))))))))))))))))))))))))))))))))))))))))))))))))))))))))))))))))))))))))))))))))))))
-- EXX: No.settle_pv, No.pure_pv, No.cells_pv, upd_nb, upd_nt
-- TYPES: 3 4 5 9 21 22 25 26 28 30 32 33 35 39 41 44 49 50 52 68 92 94 96 98 144

theorem get_updS {m : M} {id : Nat} {c : List PV} (h : id < m.nb) : (m.upd id c).get id = some c := by rw [M.get_upd, if_pos ⟨rfl, h⟩]
theorem upd_updS (m : M) (id : Nat) (c c' : List PV) : (m.upd id c).upd id c' = m.upd id c' := by
  unfold M.upd; simp only [List.set_set]
def tpC (l : List Int) (i : Nat) : List PV := [.sl .no (l.map pU), .v (.int .i64 (i : Int))]
theorem leave_upd {m : M} {id : Nat} {c c' : List PV} {v : PV} {R : PV → M → Prop} (hc : PV.pures c' = true) (hv : v.settle.pure = true) (hR : R v.settle (m.upd id c')) : ∃ v' m', Leave (m.upd id c) (m.upd id c') v v' m' ∧ R v' m' := by
  refine ⟨_, _, .upd v (m.upd id c') (by simp [M.upd, M.nb]) (by simp only [M.upd, M.nb, List.set_set, List.length_set]; rw [List.take_of_length_le (by simp)]) (by simp [M.upd, M.nt]) (by simp [M.upd, M.nt]) (fun k d hk => ?_) hv, hR⟩
  rw [M.get_upd] at hk
  split at hk
  · exact .inr (by cases hk; exact hc)
  · rename_i h
    exact .inl (by rw [M.get_upd, if_neg h]; exact hk)
set_option maxRecDepth 20000 in
set_option maxHeartbeats 1000000 in
theorem nextT_any (l : List Int) (hl : l.length ≤ 1000) (hel : ∀ x ∈ l, 0 ≤ x ∧ x ≤ 255) (m : M) (tp : Nat) (hT : tp < m.nb) (k : Int) (hk : 0 < k) (i : Nat) : ACalls Try.prog 53 [.bp tp 0, pI k] (m.upd tp (tpC l i)) (fun v m' => ∃ (r : Int) (i' : Nat), v = pI r ∧ (0 ≤ r ∧ r < k) ∧ m' = m.upd tp (tpC l i')) := by
  have hp : ∀ i, PV.pures (tpC l i) = true := fun i => rfl
  refine ACalls.enter (mu := []) ok_mix Try.func53 rfl (by kernel_rfl) (by kernel_rfl) (by simp only [List.length_cons, List.length_nil, Try.ntmps53]; omega) ?_
  cases c1 : decide ((i : Int) ≥ (l.length : Int)) with
  | true =>
    (repeat (first | (refine aSeq (fun X hX => ?_)) | (refine aBlk ?_) | (refine aSkip ?_) | ((first | refine aReg ?_ | refine aDrw (fun m2 => m2 = _) (by kernel_rfl) rfl ?_); simp -implicitDefEqProofs only [forall_eq, ↓slp, slb, ↓reduceIte, reduceCtorEq, Nat.reduceEqDiff, Nat.reduceAdd, Nat.reduceMul, Nat.reduceLT, Nat.reduceLeDiff, Nat.reduceBEq, Nat.reduceBNe, Int.reduceLE, Int.reduceLT, Int.reduceToNat, Int.reduceEq, tfAbMk18, hT, c1, get_updS, upd_updS, tpC]; try simp only [Ex.fold, Ex.foldcs, ← Va.pv.eq_1]) | (refine aIf ?_; simp -implicitDefEqProofs only [↓slp, slb, ↓reduceIte, reduceCtorEq, Nat.reduceEqDiff, Nat.reduceAdd, Nat.reduceMul, Nat.reduceLT, Nat.reduceLeDiff, Nat.reduceBEq, Nat.reduceBNe, Int.reduceLE, Int.reduceLT, Int.reduceToNat, Int.reduceEq, hT, c1, get_updS, upd_updS, tpC]) | (refine aExit ?_; simp only [slx, ↓reduceIte, Nat.reduceEqDiff, reduceCtorEq]) | (refine aRet ?_; try simp only [slx, ↓reduceIte, Nat.reduceEqDiff, reduceCtorEq]) | (refine hX _ _ ?_; clear hX X) | (clear hX X; refine hX _ _ ?_; clear hX X) | (clear hX X; clear hX X; refine hX _ _ ?_; clear hX X) | (intro hlen; unfold maxLen at hlen) | (apply And.intro; (focus (first | omega | assumption | (repeat' apply And.intro) <;> first | omega | assumption)))))
    simp only [aPost, Try.results53, aRes_n, aRes_t, aRes_c, pack_one, pack_two]
    exact leave_upd (hp _) rfl ⟨0, i, rfl, ⟨Int.le_refl _, hk⟩, rfl⟩
  | false =>
    have hlt : i < l.length := by simp at c1; omega
    have hi : IntKind.i64.wrap ((i : Int) + 1) = ((i + 1 : Nat) : Int) := by rw [wrap64 (by omega)]; omega
    have hj : IntKind.i64.wrap (((i + 1 : Nat) : Int) - 1) = (i : Int) := by rw [wrap64 (by omega)]; omega
    have g0 := getD_map pU l i hlt
    have he := hel _ (List.getElem_mem hlt)
    have hw : IntKind.i64.wrap l[i] = l[i] := wrap64 (by omega)
    have hk0 : ¬ k = 0 := by omega
    (repeat (first | (refine aSeq (fun X hX => ?_)) | (refine aBlk ?_) | (refine aSkip ?_) | ((first | refine aReg ?_ | refine aDrw (fun m2 => m2 = _) (by kernel_rfl) rfl ?_); simp -implicitDefEqProofs only [forall_eq, ↓slp, slb, ↓reduceIte, reduceCtorEq, Nat.reduceEqDiff, Nat.reduceAdd, Nat.reduceMul, Nat.reduceLT, Nat.reduceLeDiff, Nat.reduceBEq, Nat.reduceBNe, Int.reduceLE, Int.reduceLT, Int.reduceToNat, Int.reduceEq, tfAbMk18, hT, c1, hi, hj, g0, hw, hk0, get_updS, upd_updS, tpC]; try simp only [Ex.fold, Ex.foldcs, ← Va.pv.eq_1]) | (refine aIf ?_; simp -implicitDefEqProofs only [↓slp, slb, ↓reduceIte, reduceCtorEq, Nat.reduceEqDiff, Nat.reduceAdd, Nat.reduceMul, Nat.reduceLT, Nat.reduceLeDiff, Nat.reduceBEq, Nat.reduceBNe, Int.reduceLE, Int.reduceLT, Int.reduceToNat, Int.reduceEq, hT, c1, hi, hj, g0, hw, hk0, get_updS, upd_updS, tpC]) | (refine aExit ?_; simp only [slx, ↓reduceIte, Nat.reduceEqDiff, reduceCtorEq]) | (refine aRet ?_; try simp only [slx, ↓reduceIte, Nat.reduceEqDiff, reduceCtorEq]) | (refine hX _ _ ?_; clear hX X) | (clear hX X; refine hX _ _ ?_; clear hX X) | (clear hX X; clear hX X; refine hX _ _ ?_; clear hX X) | (intro hlen; unfold maxLen at hlen) | (apply And.intro; (focus (first | omega | assumption | (repeat' apply And.intro) <;> first | omega | assumption)))))
    simp only [aPost, Try.results53, aRes_n, aRes_t, aRes_c, pack_one, pack_two]
    exact leave_upd (hp _) rfl ⟨_, i + 1, rfl, ⟨Int.tmod_nonneg _ he.1, Int.tmod_lt_of_pos _ hk⟩, rfl⟩

theorem gst_mk {m : M} {p : GP} {z c1 pb : Option (List PV)} {gens : List (Option (List PV))} {c2 : Option (List PV)} {i : Nat} {n q : Int} (htp : p.tp = m.nb + 1) (hgp : p.gp = m.nb + (gens.length + 1 + 1 + 1)) :
    gst p (m.ext (z :: c1 :: pb :: (gens ++ [c2]))) i n q = m.ext (z :: some (p.tape i) :: pb :: (gens ++ [some (p.gen n q)])) := by
  unfold gst
  rw [htp, hgp, ext_upd rfl, ext_upd rfl]
  simp only [List.set_cons_succ, List.set_cons_zero, set_concat_length]
/-- The states that differ in all own boxes but the third. -/
def isK (m : M) (c : List PV) (m2 : M) : Prop := ∃ ts x y r, m2 = (⟨m.boxes, ts⟩ : M).ext (x :: y :: some c :: r)
theorem isK_all {m : M} {c : List PV} {Q : M → Prop} : (∀ m2, isK m c m2 → Q m2) = ∀ ts x y r, Q ((⟨m.boxes, ts⟩ : M).ext (x :: y :: some c :: r)) :=
  propext ⟨fun h ts x y r => h _ ⟨ts, x, y, r, rfl⟩, fun h m2 ⟨ts, x, y, r, e⟩ => e ▸ h ts x y r⟩
theorem isK_of {m mm : M} {c : List PV} {x y : Option (List PV)} {r : List (Option (List PV))} (h : mm.boxes = m.boxes) : isK m c (mm.ext (x :: y :: some c :: r)) := ⟨mm.toks, x, y, r, by rw [← h]⟩
theorem isK_get {m : M} {c : List PV} {ts : List (Option Nat)} {x y : Option (List PV)} {r : List (Option (List PV))} : ((⟨m.boxes, ts⟩ : M).ext (x :: y :: some c :: r)).get (m.nb + 2) = some c := by
  have := ext_get (m := (⟨m.boxes, ts⟩ : M)) (bs := x :: y :: some c :: r) (k := m.nb) (i := 2) rfl
  rw [this]; rfl
theorem no_len (l : List No) : ∀ x ∈ l.map No.pv, x.cells.length = 7 := fun x hx => by
  obtain ⟨a, _, rfl⟩ := List.mem_map.1 hx
  rfl
theorem nextM_any (l : List Int) (hl : l.length ≤ 1000) (hel : ∀ x ∈ l, 0 ≤ x ∧ x ≤ 255) (m : M) (a : Nat) (ha : m.nb + 1 = a) (z pb : Option (List PV)) (gens : List (Option (List PV))) (k : Int) (hk : 0 < k) (i : Nat) : ACalls Try.prog 53 [.bp a 0, pI k] (m.ext (z :: some (tpC l i) :: pb :: gens)) (fun v m' => ∃ (r : Int) (i' : Nat), v = pI r ∧ (0 ≤ r ∧ r < k) ∧ m' = m.ext (z :: some (tpC l i') :: pb :: gens)) := by
  subst ha
  have e : ∀ i, (m.ext (z :: none :: pb :: gens)).upd (m.nb + 1) (tpC l i) = m.ext (z :: some (tpC l i) :: pb :: gens) := fun i => ext_upd rfl
  have h := nextT_any l hl hel (m.ext (z :: none :: pb :: gens)) (m.nb + 1) (by rw [ext_nb]; simp only [List.length_cons]; omega) k hk i
  simp only [e] at h
  exact h
theorem nodeM_any (p : GP) (m : M) (hl : p.l.length ≤ 1000) (hel : ∀ x ∈ p.l, 0 ≤ x ∧ x ≤ 255) (hsub : p.subs < 100) (z pb : Option (List PV)) (gens : List (Option (List PV))) (htp : p.tp = m.nb + 1) (hgp : p.gp = m.nb + (gens.length + 1 + 1 + 1)) (k : Nat) (hk : k < 100) (i : Nat) :
    ACalls Try.prog 54 [.bp p.gp 0, pI k] (m.ext (z :: some (p.tape i) :: pb :: (gens ++ [some (p.gen 0 14)]))) (fun v m' => ∃ (x : No) (i' n' : Nat) (q' : Int), v = x.pv ∧ GNode (GBk 3 p.subs) k x ∧ m' = m.ext (z :: some (p.tape i') :: pb :: (gens ++ [some (p.gen n' q')]))) := by
  have h := node_any p (m.ext (z :: none :: pb :: (gens ++ [none]))) ⟨by rw [ext_nb, htp]; simp only [List.length_cons]; omega, by rw [ext_nb, hgp]; simp only [List.length_cons, List.length_append, List.length_nil]; omega, by omega, hl, hel, hsub⟩ k hk i
  simp only [gst_mk htp hgp] at h
  exact h
def sCol : Str := ⟨#[99, 111, 108]⟩
/-- The cells of the type of colours. -/
def colC : List PV := [.v (.string sCol), .sl .no [pS sRed, pS sGreen, pS sBlue], .v (.int .i64 0), .v (.int .i64 0)]
def GNodes (l : List No) : Prop := ∀ k (h : k < l.length), GNode (GBk 3 (k : Int)) k l[k]
set_option maxRecDepth 20000 in
set_option maxHeartbeats 8000000 in
theorem make_any (l : List Int) (hl : l.length ≤ 1000) (hel : ∀ x ∈ l, 0 ≤ x ∧ x ≤ 255) (m : M) : ACalls Try.prog 9 [.sl .no (l.map pU)] m (fun v m' => ∃ ns : List No, v = .ag [.sl .no [.ag colC], .sl .no (ns.map No.pv)] ∧ (1 ≤ ns.length ∧ ns.length ≤ 3) ∧ GNodes ns ∧ m' = m) := by
  refine ACalls.enter (mu := [2, 4, 10, 30]) ok_mix Try.func9 rfl (by kernel_rfl) (by kernel_rfl) (by simp only [List.length_cons, List.length_nil, Try.ntmps9]; omega) ?_
  (repeat (first | (refine aSeq (fun X hX => ?_)) | (refine aBlk ?_) | (refine aSkip ?_) | (refine aReg ?_; simp -implicitDefEqProofs only [forall_eq, ↓slp, slb, ↓reduceIte, reduceCtorEq, Nat.reduceEqDiff, Nat.reduceAdd, Nat.reduceMul, Nat.reduceLT, Nat.reduceLeDiff, Nat.reduceBEq, Nat.reduceBNe, Int.reduceLE, Int.reduceLT, Int.reduceToNat, Int.reduceEq, tfAbMk18]; try simp only [Ex.fold, Ex.foldcs, ← Va.pv.eq_1]) | (refine aIf ?_; simp -implicitDefEqProofs only [↓slp, slb, ↓reduceIte, reduceCtorEq, Nat.reduceEqDiff, Nat.reduceAdd, Nat.reduceMul, Nat.reduceLT, Nat.reduceLeDiff, Nat.reduceBEq, Nat.reduceBNe, Int.reduceLE, Int.reduceLT, Int.reduceToNat, Int.reduceEq]) | (refine aExit ?_; simp only [slx, ↓reduceIte, Nat.reduceEqDiff, reduceCtorEq]) | (refine aRet ?_; try simp only [slx, ↓reduceIte, Nat.reduceEqDiff, reduceCtorEq]) | (refine hX _ _ ?_; clear hX X) | (clear hX X; refine hX _ _ ?_; clear hX X) | (clear hX X; clear hX X; refine hX _ _ ?_; clear hX X) | (intro hlen; unfold maxLen at hlen) | (apply And.intro; (focus (first | omega | assumption | (repeat' apply And.intro) <;> first | omega | assumption)))))
  refine callM (nextM_any l hl hel m _ rfl _ _ _ 3 (by omega) 0) ?_
  rintro v m' ⟨r0, i0, rfl, ⟨hr0, hr1⟩, rfl⟩
  obtain ⟨nn, hnn, hwn⟩ : ∃ nn : Nat, (1 ≤ nn ∧ nn ≤ 3) ∧ IntKind.i64.wrap (1 + r0) = (nn : Int) := ⟨(1 + r0).toNat, by omega, by rw [wrap64 (by omega)]; omega⟩
  simp -implicitDefEqProofs only [↓slp, slb, ↓reduceIte, reduceCtorEq, Nat.reduceEqDiff, Nat.reduceAdd, Nat.reduceMul, Nat.reduceLT, Nat.reduceLeDiff, Nat.reduceBEq, Nat.reduceBNe, Int.reduceLE, Int.reduceLT, Int.reduceToNat, Int.reduceEq, tfAbMk18, hwn]; try simp only [Ex.fold, Ex.foldcs, ← Va.pv.eq_1]
  (repeat (first | (refine aSeq (fun X hX => ?_)) | (refine aBlk ?_) | (refine aSkip ?_) | (refine aReg ?_; simp -implicitDefEqProofs only [forall_eq, ↓slp, slb, ↓reduceIte, reduceCtorEq, Nat.reduceEqDiff, Nat.reduceAdd, Nat.reduceMul, Nat.reduceLT, Nat.reduceLeDiff, Nat.reduceBEq, Nat.reduceBNe, Int.reduceLE, Int.reduceLT, Int.reduceToNat, Int.reduceEq, tfAbMk18]; try simp only [Ex.fold, Ex.foldcs, ← Va.pv.eq_1]) | (refine aIf ?_; simp -implicitDefEqProofs only [↓slp, slb, ↓reduceIte, reduceCtorEq, Nat.reduceEqDiff, Nat.reduceAdd, Nat.reduceMul, Nat.reduceLT, Nat.reduceLeDiff, Nat.reduceBEq, Nat.reduceBNe, Int.reduceLE, Int.reduceLT, Int.reduceToNat, Int.reduceEq]) | (refine aExit ?_; simp only [slx, ↓reduceIte, Nat.reduceEqDiff, reduceCtorEq]) | (refine aRet ?_; try simp only [slx, ↓reduceIte, Nat.reduceEqDiff, reduceCtorEq]) | (refine hX _ _ ?_; clear hX X) | (clear hX X; refine hX _ _ ?_; clear hX X) | (clear hX X; clear hX X; refine hX _ _ ?_; clear hX X) | (intro hlen; unfold maxLen at hlen) | (apply And.intro; (focus (first | omega | assumption | (repeat' apply And.intro) <;> first | omega | assumption)))))
  obtain ⟨I, hI⟩ : ∃ I : F → M → Prop, ∀ f m', I f m' = (∃ (j : Nat) (ns : List No) (o2 : Own) (mm : M) (r : List (Option (List PV))) (i' : Nat), j ≤ nn ∧ f 2 = .bp m.nb 0 ∧ f 3 = .bp (m.nb + 1) 0 ∧ f 4 = .bp (m.nb + 2) 0 ∧ f 5 = pI nn ∧ f 6 = pI j ∧ ns.length = j ∧ GNodes ns ∧ Toks m mm ∧ Mine m mm o2 7 ∧ m' = mm.ext (some [PV.sl Own.full [], PV.sl Own.full []] :: some (tpC l i') :: some [PV.sl Own.full [PV.ag colC], PV.sl o2 (ns.map No.pv)] :: r)) := ⟨_, fun _ _ => rfl⟩
  refine aLoop I (fun f m => nn - numOf (f 6)) ?_ ?_
  · rw [hI]; exact ⟨0, [], .full, m, [], i0, by omega, rfl, rfl, rfl, rfl, rfl, rfl, (fun _ h => by cases h), .refl _, .full, rfl⟩
  intro f m' hrel
  rw [hI] at hrel
  obtain ⟨j, ns, o2, mm, r, i1, hj, h2, h3, h4, h5, h6, hlen, hga, ht, g2, rfl⟩ := hrel
  have hnb := ht.nb
  (repeat (first | (refine aSeq (fun X hX => ?_)) | (refine aBlk ?_) | (refine aSkip ?_) | ((first | refine aReg ?_ | refine aDrw (fun m2 => m2 = _) (by kernel_rfl) rfl ?_); simp -implicitDefEqProofs only [forall_eq, ↓slp, slb, ↓reduceIte, reduceCtorEq, Nat.reduceEqDiff, Nat.reduceAdd, Nat.reduceMul, Nat.reduceLT, Nat.reduceLeDiff, Nat.reduceBEq, Nat.reduceBNe, Int.reduceLE, Int.reduceLT, Int.reduceToNat, Int.reduceEq, tfAbMk18, h5, h6, pI]; try simp only [Ex.fold, Ex.foldcs, ← Va.pv.eq_1]) | (refine aExit ?_; simp only [slx, ↓reduceIte, Nat.reduceEqDiff, reduceCtorEq]) | (refine aRet ?_; try simp only [slx, ↓reduceIte, Nat.reduceEqDiff, reduceCtorEq]) | (refine hX _ _ ?_; clear hX X) | (clear hX X; refine hX _ _ ?_; clear hX X) | (clear hX X; clear hX X; refine hX _ _ ?_; clear hX X) | (intro hlen; unfold maxLen at hlen) | (apply And.intro; (focus (first | omega | assumption | (repeat' apply And.intro) <;> first | omega | assumption)))))
  refine aIf ?_; simp -implicitDefEqProofs only [↓slp, slb, ↓reduceIte, reduceCtorEq, Nat.reduceEqDiff, Nat.reduceAdd, Nat.reduceMul, Nat.reduceLT, Nat.reduceLeDiff, Nat.reduceBEq, Nat.reduceBNe, Int.reduceLE, Int.reduceLT, Int.reduceToNat, Int.reduceEq]; refine ⟨fun hb => ?_, fun hb => ?_⟩
  · have hlt : j < nn := by simpa using hb
    have hi : IntKind.i64.wrap ((j : Int) + 1) = ((j + 1 : Nat) : Int) := by rw [wrap64 (by omega)]; omega
    have hmu : numOf (f 6) = j := by rw [h6]; rfl
    have hw1 : IntKind.i64.wrap ((nn : Int) - 1) = (nn : Int) - 1 := wrap64 (by omega)
    (repeat (first | (refine aSeq (fun X hX => ?_)) | (refine aBlk ?_) | (refine aSkip ?_) | (refine aReg ?_; simp -implicitDefEqProofs only [forall_eq, ↓slp, slb, ↓reduceIte, reduceCtorEq, Nat.reduceEqDiff, Nat.reduceAdd, Nat.reduceMul, Nat.reduceLT, Nat.reduceLeDiff, Nat.reduceBEq, Nat.reduceBNe, Int.reduceLE, Int.reduceLT, Int.reduceToNat, Int.reduceEq, tfAbMk18, h2, h3, h4, h5, h6, hw1, hnb, pI]; try simp only [Ex.fold, Ex.foldcs, ← Va.pv.eq_1]) | (refine aIf ?_; simp -implicitDefEqProofs only [↓slp, slb, ↓reduceIte, reduceCtorEq, Nat.reduceEqDiff, Nat.reduceAdd, Nat.reduceMul, Nat.reduceLT, Nat.reduceLeDiff, Nat.reduceBEq, Nat.reduceBNe, Int.reduceLE, Int.reduceLT, Int.reduceToNat, Int.reduceEq, h2, h3, h4, h5, h6, hw1, hnb, pI]) | (refine aExit ?_; simp only [slx, ↓reduceIte, Nat.reduceEqDiff, reduceCtorEq]) | (refine aRet ?_; try simp only [slx, ↓reduceIte, Nat.reduceEqDiff, reduceCtorEq]) | (refine hX _ _ ?_; clear hX X) | (clear hX X; refine hX _ _ ?_; clear hX X) | (clear hX X; clear hX X; refine hX _ _ ?_; clear hX X) | (intro hlen; unfold maxLen at hlen) | (apply And.intro; (focus (first | omega | assumption | (repeat' apply And.intro) <;> first | omega | assumption)))))
    have hf := g2.free
    have hnl := no_len ns
    have hmx : ns.length + 1 ≤ maxLen := by unfold maxLen; omega
    have ht1 := ht.use (s := 7) g2
    have g2' := Mine.new ht o2 7
    refine aDrwE (isK m [PV.sl Own.full [PV.ag colC], PV.sl o2 (ns.map No.pv)]) (hne := List.cons_ne_nil _ _) rfl (by kernel_rfl) (by kernel_rfl) (isK_of ht.boxes) ?_
    simp -implicitDefEqProofs only [↓slp, slb, ↓reduceIte, reduceCtorEq, Nat.reduceEqDiff, Nat.reduceAdd, Nat.reduceMul, Nat.reduceLT, Nat.reduceLeDiff, Nat.reduceBEq, Nat.reduceBNe, Int.reduceLE, Int.reduceLT, Int.reduceToNat, Int.reduceEq, tfAbMk18, h2, h3, h4, h5, h6, hnb, pI, isK_all, isK_get, forall_const, List.dropLast_cons_cons, List.dropLast_singleton, List.getLast_cons_cons, List.getLast_singleton, List.getElem?_cons_succ, List.getElem?_cons_zero, List.set_cons_succ, List.set_cons_zero]; try simp only [Ex.fold, Ex.foldcs, ← Va.pv.eq_1]
    refine callM (nodeM_any ⟨l, m.nb + (r.length + 1 + 1 + 1), m.nb + 1, (j : Int), ((j : Int) == (nn : Int) - 1)⟩ mm hl hel (by show (j : Int) < 100; omega) _ _ r (by rw [hnb]) (by rw [hnb]) j (by omega) i1) ?_
    rintro v m' ⟨x, i2, n2, q2, rfl, hx, rfl⟩
    refine ⟨isK_of ht.boxes, ?_⟩
    simp -implicitDefEqProofs only [↓slp, slb, ↓reduceIte, reduceCtorEq, Nat.reduceEqDiff, Nat.reduceAdd, Nat.reduceMul, Nat.reduceLT, Nat.reduceLeDiff, Nat.reduceBEq, Nat.reduceBNe, Int.reduceLE, Int.reduceLT, Int.reduceToNat, Int.reduceEq, tfAbMk18, h2, h3, h4, h5, h6, hnb, pI, isK_all, isK_get, forall_const, List.dropLast_cons_cons, List.dropLast_singleton, List.getLast_cons_cons, List.getLast_singleton, List.getElem?_cons_succ, List.getElem?_cons_zero, List.set_cons_succ, List.set_cons_zero]; try simp only [Ex.fold, Ex.foldcs, ← Va.pv.eq_1]
    have hx7 : x.cs.length = 7 := rfl
    refine ⟨⟨hx7, rfl⟩, ?_⟩
    (repeat (first | (intro hlen; unfold maxLen at hlen) | (apply And.intro; (focus (first | omega | assumption | trivial | (repeat' apply And.intro) <;> first | omega | assumption | trivial)))))
    refine ⟨isK_of ht1.boxes, ?_⟩
    (repeat (first | (refine aSeq (fun X hX => ?_)) | (refine aBlk ?_) | (refine aSkip ?_) | (refine aReg ?_; simp -implicitDefEqProofs only [forall_eq, ↓slp, slb, ↓reduceIte, reduceCtorEq, Nat.reduceEqDiff, Nat.reduceAdd, Nat.reduceMul, Nat.reduceLT, Nat.reduceLeDiff, Nat.reduceBEq, Nat.reduceBNe, Int.reduceLE, Int.reduceLT, Int.reduceToNat, Int.reduceEq, tfAbMk18, h2, h3, h4, h5, h6, hnb, pI, hi]; try simp only [Ex.fold, Ex.foldcs, ← Va.pv.eq_1]) | (refine aIf ?_; simp -implicitDefEqProofs only [↓slp, slb, ↓reduceIte, reduceCtorEq, Nat.reduceEqDiff, Nat.reduceAdd, Nat.reduceMul, Nat.reduceLT, Nat.reduceLeDiff, Nat.reduceBEq, Nat.reduceBNe, Int.reduceLE, Int.reduceLT, Int.reduceToNat, Int.reduceEq, h2, h3, h4, h5, h6, hnb, pI, hi]) | (refine aExit ?_; simp only [slx, ↓reduceIte, Nat.reduceEqDiff, reduceCtorEq]) | (refine aRet ?_; try simp only [slx, ↓reduceIte, Nat.reduceEqDiff, reduceCtorEq]) | (refine hX _ _ ?_; clear hX X) | (clear hX X; refine hX _ _ ?_; clear hX X) | (clear hX X; clear hX X; refine hX _ _ ?_; clear hX X) | (intro hlen; unfold maxLen at hlen) | (apply And.intro; (focus (first | omega | assumption | (repeat' apply And.intro) <;> first | omega | assumption)))))
    rw [hI]
    refine ⟨⟨j + 1, ns ++ [x], .tok mm.nt, (o2.use mm).fresh 7, r ++ [some (GP.gen ⟨l, m.nb + (r.length + 1 + 1 + 1), m.nb + 1, (j : Int), ((j : Int) == (nn : Int) - 1)⟩ n2 q2)], i2, hlt, h2, h3, h4, h5, rfl, by simp [hlen], ?_, ht1, g2', ?_⟩, by omega⟩
    · intro k hk
      by_cases hkk : k < ns.length
      · rw [List.getElem_append_left hkk]; exact hga k hkk
      · have he : k = ns.length := by simp at hk; omega
        subst he
        rw [List.getElem_append_right (Nat.le_refl _)]
        subst hlen
        simpa using hx
    · rw [List.map_append, List.map_singleton]
      rfl
  · have hlt : j = nn := by simp at hb; omega
    subst hlt
    (repeat (first | (refine aSeq (fun X hX => ?_)) | (refine aBlk ?_) | (refine aSkip ?_) | (refine aReg ?_; simp -implicitDefEqProofs only [forall_eq, ↓slp, slb, ↓reduceIte, reduceCtorEq, Nat.reduceEqDiff, Nat.reduceAdd, Nat.reduceMul, Nat.reduceLT, Nat.reduceLeDiff, Nat.reduceBEq, Nat.reduceBNe, Int.reduceLE, Int.reduceLT, Int.reduceToNat, Int.reduceEq, tfAbMk18, h2, h3, h4, h5, h6, hnb, pI]; try simp only [Ex.fold, Ex.foldcs, ← Va.pv.eq_1]) | (refine aIf ?_; simp -implicitDefEqProofs only [↓slp, slb, ↓reduceIte, reduceCtorEq, Nat.reduceEqDiff, Nat.reduceAdd, Nat.reduceMul, Nat.reduceLT, Nat.reduceLeDiff, Nat.reduceBEq, Nat.reduceBNe, Int.reduceLE, Int.reduceLT, Int.reduceToNat, Int.reduceEq, h2, h3, h4, h5, h6, hnb, pI]) | (refine aExit ?_; simp only [slx, ↓reduceIte, Nat.reduceEqDiff, reduceCtorEq]) | (refine aRet ?_; try simp only [slx, ↓reduceIte, Nat.reduceEqDiff, reduceCtorEq]) | (refine hX _ _ ?_; clear hX X) | (clear hX X; refine hX _ _ ?_; clear hX X) | (clear hX X; clear hX X; refine hX _ _ ?_; clear hX X) | (intro hlen; unfold maxLen at hlen) | (apply And.intro; (focus (first | omega | assumption | (repeat' apply And.intro) <;> first | omega | assumption)))))
    simp only [aPost, Try.results9, aRes_n, aRes_t, aRes_c, pack_one, pack_two]
    simp -implicitDefEqProofs only [↓slp, slb, ↓reduceIte, reduceCtorEq, Nat.reduceEqDiff, Nat.reduceAdd, Nat.reduceMul, Nat.reduceLT, Nat.reduceLeDiff, Nat.reduceBEq, Nat.reduceBNe, Int.reduceLE, Int.reduceLT, Int.reduceToNat, Int.reduceEq, tfAbMk18, h2, h3, h4, h5, h6, hnb, pI]; try simp only [Ex.fold, Ex.foldcs, ← Va.pv.eq_1]
    exact leave_toks ht rfl ⟨ns, rfl, by omega, hga, rfl⟩
end Go.Proofs.Ytibhhoknipdlpaa

/-
  What is made is well shaped, not too much of it, and not nothing.
-/
set_option linter.unusedVariables false
set_option linter.unusedSimpArgs false
namespace Go.Proofs.Ytibhhoknipdlpaa
open Go

theorem const_shp {t : Ty} {e : Ex} (h : isConst t e) : e.shp = true ∧ e.size = 1 := by
  rcases h with ⟨_, k, _, rfl⟩ | ⟨_, k, _, rfl⟩ | ⟨_, c, _, rfl⟩ <;> exact ⟨rfl, rfl⟩
theorem vc_shp {l : List Va} {t : Ty} {e : Ex} (h : isVC l t e) : e.shp = true ∧ e.size = 1 := by
  rcases h with ⟨s, _, rfl⟩ | h
  · exact ⟨rfl, rfl⟩
  · exact const_shp h
theorem gex_shp : ∀ (d : Nat) {s : Sc} {t : Ty} {st : Bool} {e : Ex}, GEx d s t st e → e.shp = true ∧ e.size ≤ 4 ^ d
  | 0, s, t, st, e, h => by
    obtain ⟨h1, h2⟩ := vc_shp h
    exact ⟨h1, by rw [h2]; exact Nat.le_refl _⟩
  | d + 1, s, t, st, e, h => by
    have hp : 1 ≤ 4 ^ d := Nat.one_le_pow _ _ (by decide)
    have hpow : 4 ^ (d + 1) = 4 * 4 ^ d := by rw [Nat.pow_succ]; omega
    have one : ∀ {e : Ex}, e.shp = true ∧ e.size = 1 → e.shp = true ∧ e.size ≤ 4 ^ (d + 1) := fun h => ⟨h.1, by rw [h.2]; omega⟩
    rcases h with h | ⟨c, a, b, h1, h2, h3, rfl⟩ | ⟨_, c, b, h1, h2, rfl⟩ | ⟨_, a, b, h1, h2, rfl⟩ | ⟨x, h1, rfl⟩ | ⟨_, a, h1, rfl⟩ | ⟨_, o, a, b, _, h1, h2, rfl⟩ | ⟨_, a, h1, rfl⟩ | ⟨_, o, u, a, b, _, h1, h2, rfl⟩ | h
    · exact one (vc_shp h)
    · obtain ⟨p1, q1⟩ := gex_shp d h1
      obtain ⟨p2, q2⟩ := gex_shp d h2
      obtain ⟨p3, q3⟩ := gex_shp d h3
      exact ⟨by simp [Ex.un, Ex.shp, Ex.shps, p1, p2, p3], by simp only [Ex.un, Ex.size, Ex.sizes]; omega⟩
    · obtain ⟨p1, q1⟩ := const_shp h1
      obtain ⟨p2, q2⟩ := gex_shp d h2
      exact ⟨by simp [Ex.two, Ex.shp, Ex.shps, p1, p2], by simp only [Ex.two, Ex.size, Ex.sizes]; omega⟩
    · obtain ⟨p1, q1⟩ := gex_shp d h1
      obtain ⟨p2, q2⟩ := gex_shp d h2
      exact ⟨by simp [Ex.two, Ex.un, Ex.shp, Ex.shps, p1, p2], by simp only [Ex.two, Ex.un, Ex.size, Ex.sizes]; omega⟩
    · exact one ⟨rfl, rfl⟩
    · obtain ⟨p1, q1⟩ := gex_shp d h1
      exact ⟨by simp [Ex.un, Ex.shp, Ex.shps, p1], by simp only [Ex.un, Ex.size, Ex.sizes]; omega⟩
    · obtain ⟨p1, q1⟩ := gex_shp d h1
      obtain ⟨p2, q2⟩ := gex_shp d h2
      exact ⟨by simp [Ex.two, Ex.shp, Ex.shps, p1, p2], by simp only [Ex.two, Ex.size, Ex.sizes]; omega⟩
    · obtain ⟨p1, q1⟩ := gex_shp d h1
      exact ⟨by simp [Ex.un, Ex.shp, Ex.shps, p1], by simp only [Ex.un, Ex.size, Ex.sizes]; omega⟩
    · obtain ⟨p1, q1⟩ := gex_shp d h1
      obtain ⟨p2, q2⟩ := gex_shp d h2
      exact ⟨by simp [Ex.two, Ex.shp, Ex.shps, p1, p2], by simp only [Ex.two, Ex.size, Ex.sizes]; omega⟩
    · exact one (vc_shp h)
def okE (e : Ex) : Prop := e.shp = true ∧ e.size ≤ 100
theorem gex_ok {d : Nat} (hd : d ≤ 3) {s : Sc} {t : Ty} {st : Bool} {e : Ex} (h : GEx d s t st e) : okE e := by
  obtain ⟨h1, h2⟩ := gex_shp d h
  have : 4 ^ d ≤ 4 ^ 3 := Nat.pow_le_pow_right (by decide) hd
  exact ⟨h1, by omega⟩
/-- What is known of equations: all of their expressions, how many, and that there is one. -/
structure EqOk (n n' : Nat) (outs : List Va) (l : List Qu) (c : Nat) : Prop where
  mono : n ≤ n'
  ok : ∀ e ∈ Qu.alls l, okE e
  few : (Qu.alls l).length ≤ 2 * (n' - n) + c
  some : outs ≠ [] → Qu.alls l ≠ []
def BkOk (RB : RBT) (c : Nat) : Prop := ∀ n n' s outs b, outs.length ≤ 3 → RB n n' s outs b → EqOk n n' outs b.eqs c
theorem ways_ok {s : Sc} {nn : Int} {l : List Tr} (h : GWays s nn l) : (∀ e ∈ l.map (·.e), okE e) ∧ (l.map (·.e)).length ≤ 2 := by
  refine ⟨fun e he => ?_, by rw [List.length_map]; exact h.1⟩
  obtain ⟨t, ht, rfl⟩ := List.mem_map.1 he
  obtain ⟨e, k, b, h1, _, rfl⟩ := h.2 t ht
  exact gex_ok (by decide) h1
theorem chn_ok {R : Nat → Nat → Nat → Am → Prop} {c : Nat} (h : ∀ j n n' a, R j n n' a → n ≤ n' ∧ (∀ e ∈ a.all, okE e) ∧ a.all.length ≤ 2 * (n' - n) + c) : ∀ {l : List Am} {j n n' : Nat}, Chn R j n n' l → n ≤ n' ∧ (∀ e ∈ Am.alls l, okE e) ∧ (Am.alls l).length ≤ 2 * (n' - n) + c * l.length
  | [], j, n, n', hc => by cases hc; exact ⟨Nat.le_refl _, (fun e he => by cases he), by simp [Am.alls]⟩
  | a :: l, j, n, n', ⟨n1, h1, h2⟩ => by
    obtain ⟨p1, p2, p3⟩ := h _ _ _ _ h1
    obtain ⟨q1, q2, q3⟩ := chn_ok h h2
    refine ⟨by omega, fun e he => ?_, ?_⟩
    · rw [Am.alls] at he
      exact (List.mem_append.1 he).elim (p2 e) (q2 e)
    · rw [Am.alls, List.length_append, List.length_cons, Nat.mul_succ]; omega
theorem isLess_le {a l : List Va} (h : isLess a l) : l.length ≤ a.length := isLess_len h
theorem defs_ok {s : Sc} : ∀ {outs : List Va} {l : List Qu}, GDefs s outs l → (∀ e ∈ Qu.alls l, okE e) ∧ (Qu.alls l).length = outs.length
  | [], l, h => by cases h; exact ⟨(fun e he => by cases he), rfl⟩
  | v :: r, l, h => by
    obtain ⟨e, l', h1, rfl, h2⟩ := h
    obtain ⟨p1, p2⟩ := defs_ok h2
    have hd : (defQ v e).all = [e] := rfl
    rw [Qu.alls, hd]
    refine ⟨fun x hx => ?_, by simp [p2]⟩
    rcases List.mem_append.1 hx with hx | hx
    · rw [List.mem_singleton.1 hx]; exact gex_ok (by decide) h1
    · exact p1 x hx
theorem eqs_ok {RB : RBT} {c : Nat} (HB : BkOk RB c) {subs : Int} {n n' : Nat} {s : Sc} {outs : List Va} {l : List Qu} {vs : List Va} (h : GEqs RB subs n n' s outs l vs) : outs.length ≤ 3 → EqOk n n' outs l (3 * c + 9) := by
  induction h with
  | defs h =>
    intro ho
    obtain ⟨p1, p2⟩ := defs_ok h
    exact ⟨Nat.le_refl _, p1, by omega, fun hne he => hne (List.eq_nil_of_length_eq_zero (by rw [← p2, he]; rfl))⟩
  | choice h =>
    intro ho
    obtain ⟨t, ns, e, ar, hns, he, hnm, hch, rfl⟩ := h
    have hal : ar.length ≤ 3 := by
      have := congrArg List.length hnm
      rw [List.length_map] at this
      rcases hns with ⟨_, rfl⟩ | ⟨_, rfl⟩ <;> simp at this <;> omega
    obtain ⟨q1, q2, q3⟩ := chn_ok (c := c) (fun j n n' a ha => by
      obtain ⟨nm, l, b, hl, _, hb, rfl⟩ := ha
      have := HB _ _ _ _ _ (Nat.le_trans (isLess_len hl) ho) hb
      refine ⟨this.mono, fun e he => this.ok e ?_, ?_⟩
      · simpa [Am.all] using he
      · simpa [Am.all] using this.few) hch
    have hal2 : Qu.alls [Qu.mk 3 [] sE [] false e ar 0 0] = e :: Am.alls ar := by simp [Qu.alls, Qu.all, Qu.own, Qu.args, Qu.has, Qu.kind, Qu.e]
    refine ⟨q1, ?_, ?_, ?_⟩
    · rw [hal2]
      intro x hx
      rcases List.mem_cons.1 hx with rfl | hx
      · exact gex_ok (by decide) he
      · exact q2 x hx
    · rw [hal2, List.length_cons]
      have : c * ar.length ≤ c * 3 := Nat.mul_le_mul_left _ hal
      omega
    · intro _; rw [hal2]; simp
  | auto h =>
    rename_i nA nA' sA outsA xA
    intro ho
    obtain ⟨nn, ar, hnn, hlen, hch, rfl⟩ := h
    obtain ⟨q1, q2, q3⟩ := chn_ok (c := c + 2) (fun j n n' a ha => by
      obtain ⟨l, u, b, w, hl, _, hu, hb, hw, rfl⟩ := ha
      have := HB _ _ _ _ _ (Nat.le_trans (isLess_len hl) ho) hb
      obtain ⟨w1, w2⟩ := ways_ok hw
      refine ⟨this.mono, fun e he => ?_, ?_⟩
      · rcases List.mem_append.1 he with he | he
        · exact this.ok e he
        · exact w1 e he
      · have := this.few
        simp only [Am.all, List.length_append]; omega) hch
    have hal2 : Qu.alls [Qu.mk 4 [] sE [] false zE ar 0 0] = Am.alls ar := by simp [Qu.alls, Qu.all, Qu.own, Qu.args, Qu.has, Qu.kind, Qu.e]
    refine ⟨q1, ?_, ?_, ?_⟩
    · rw [hal2]; exact q2
    · rw [hal2]
      have : (c + 2) * ar.length ≤ (c + 2) * 3 := Nat.mul_le_mul_left _ (by omega)
      omega
    · intro hne
      rw [hal2]
      match ar, hlen, hch with
      | [], h0, _ => simp at h0; omega
      | a :: ar, _, ⟨n1, ha, _⟩ =>
        obtain ⟨l, u, b, w, hl, hl0, hu, hb, hw, rfl⟩ := ha
        have hl0 := hl0 rfl
        subst hl0
        have := (HB _ _ _ _ _ ho hb).some hne
        intro h0
        simp only [Am.alls, Am.all, List.append_eq_nil_iff] at h0
        exact this h0.1.1
  | reset h =>
    intro ho
    obtain ⟨e, b, he, hb, rfl⟩ := h
    have := HB _ _ _ _ _ ho hb
    have hal2 : Qu.alls [Qu.mk 5 [] sE [] false e [.mk sE b.vars b.eqs [] [] 0 0] 0 0] = e :: Qu.alls b.eqs := by simp [Qu.alls, Qu.all, Qu.own, Qu.args, Qu.has, Qu.kind, Qu.e, Am.alls, Am.all]
    refine ⟨this.mono, ?_, ?_, ?_⟩
    · rw [hal2]
      intro x hx
      rcases List.mem_cons.1 hx with rfl | hx
      · exact gex_ok (by decide) he
      · exact this.ok x hx
    · rw [hal2, List.length_cons]
      have := this.few
      omega
    · intro _; rw [hal2]; simp
  | call h _ ih =>
    intro ho
    have ih := ih ho
    obtain ⟨k, a, b, hh, e, _, _, _, ha, hb, he, rfl⟩ := h
    have m1 := ih.mono
    have f1 := ih.few
    cases hh with
    | false =>
      simp only [Bool.false_eq_true, false_and, or_false] at he
      refine ⟨by omega, ?_, ?_, ?_⟩
      · intro x hx
        simp only [Qu.alls, Qu.all, Qu.own, Qu.args, Qu.has, Qu.kind, Am.alls, List.append_nil, Bool.false_or] at hx
        simp only [List.cons_append, List.nil_append, List.mem_cons, show ((2 : Int) == 2) = true from rfl, Bool.not_true, Bool.false_and, Bool.false_eq_true, if_false] at hx
        rcases hx with rfl | rfl | hx
        · exact gex_ok (by decide) ha
        · exact gex_ok (by decide) hb
        · exact ih.ok x hx
      · simp only [Qu.alls, Qu.all, Qu.own, Qu.args, Qu.has, Qu.kind, Am.alls, List.append_nil, Bool.false_or, show ((2 : Int) == 2) = true from rfl, Bool.not_true, Bool.false_and, Bool.false_eq_true, if_false, List.length_append, List.length_cons, List.length_nil]
        omega
      · intro _; simp [Qu.alls, Qu.all, Qu.own, Qu.args]
    | true =>
      simp only [Bool.true_eq_false, false_and, true_and, false_or] at he
      refine ⟨by omega, ?_, ?_, ?_⟩
      · intro x hx
        simp only [Qu.alls, Qu.all, Qu.own, Qu.args, Qu.has, Qu.kind, Qu.e, Am.alls, List.append_nil, Bool.true_or, if_true] at hx
        simp only [List.cons_append, List.nil_append, List.mem_cons] at hx
        rcases hx with rfl | rfl | rfl | hx
        · exact gex_ok (by decide) ha
        · exact gex_ok (by decide) hb
        · exact gex_ok (by decide) he
        · exact ih.ok x hx
      · simp only [Qu.alls, Qu.all, Qu.own, Qu.args, Qu.has, Qu.kind, Qu.e, Am.alls, List.append_nil, Bool.true_or, if_true, List.length_append, List.length_cons, List.length_nil]
        omega
      · intro _; simp [Qu.alls, Qu.all, Qu.own, Qu.args]
  | samp h _ ih =>
    intro ho
    have ih := ih ho
    obtain ⟨e1, e2, e3, k1, kp, rfl, rfl, rfl, h1, h2, h3, hk1, hkp, rfl, rfl, rfl⟩ := h
    have m1 := ih.mono
    have f1 := ih.few
    obtain ⟨a1, b1⟩ := gex_shp 2 h1
    obtain ⟨a2, b2⟩ := gex_shp 2 h2
    obtain ⟨a3, b3⟩ := const_shp hk1
    have hd : ∀ v e, (defQ v e).all = [e] := fun v e => rfl
    refine ⟨by omega, ?_, ?_, ?_⟩
    · intro x hx
      simp only [Qu.alls, hd, List.cons_append, List.nil_append, List.mem_cons] at hx
      rcases hx with rfl | rfl | rfl | hx
      · exact gex_ok (by decide) h3
      · rcases hkp with rfl | ⟨k2, hk2, rfl⟩
        · exact ⟨by simp [whE, Ex.shp, Ex.shps, a1], by simp only [whE, Ex.size, Ex.sizes]; omega⟩
        · obtain ⟨a4, b4⟩ := const_shp hk2
          exact ⟨by simp [whE, vaE, Ex.two, Ex.shp, Ex.shps, a1, a4], by simp only [whE, vaE, Ex.two, Ex.size, Ex.sizes]; omega⟩
      · exact ⟨by simp [mgE, whE, vaE, Ex.shp, Ex.shps, a2, a3], by simp only [mgE, whE, vaE, Ex.size, Ex.sizes]; omega⟩
      · exact ih.ok x hx
    · simp only [Qu.alls, hd, List.cons_append, List.nil_append, List.length_cons]; omega
    · intro _; simp [Qu.alls, hd]
theorem todo_ok {RE : RET} {c : Nat} (HE : ∀ n n' s outs l vs, RE n n' s outs l vs → outs.length ≤ 3 → EqOk n n' outs l c) {n n' : Nat} {s : Sc} {t : List Va} {l : List Qu} {vs : List Va} (h : GTodo RE n n' s t l vs) : EqOk n n' t l (c * t.length) := by
  induction h with
  | nil => exact ⟨Nat.le_refl _, (fun e he => by cases he), by simp [Qu.alls], fun h => absurd rfl h⟩
  | step h1 h2 hr _ ih =>
    rename_i n0 n1 n2 s0 a r l0 vs0 l1 vs1 _
    have hx := HE _ _ _ _ _ _ hr h2
    have m1 := hx.mono; have m2 := ih.mono; have f1 := hx.few; have f2 := ih.few
    refine ⟨by omega, fun e he => ?_, ?_, fun _ h0 => ?_⟩
    · rw [Qu.alls_append] at he
      exact (List.mem_append.1 he).elim (hx.ok e) (ih.ok e)
    · rw [Qu.alls_append, List.length_append, List.length_append, Nat.mul_add]
      have : c * 1 ≤ c * a.length := Nat.mul_le_mul_left _ h1
      omega
    · rw [Qu.alls_append, List.append_eq_nil_iff] at h0
      exact hx.some (fun h => by rw [h] at h1; simp at h1) h0.1
theorem blk_ok {RB : RBT} {c : Nat} (HB : BkOk RB c) (subs : Int) : BkOk (GBlk (GEqs RB subs)) (6 * (3 * c + 9)) := by
  intro n n' s outs b ho h
  obtain ⟨own, l, vs, h1, h2, h3, rfl⟩ := h
  have := todo_ok (fun n n' s outs l vs h ho => eqs_ok HB h ho) h3
  have m1 := this.mono; have f1 := this.few
  have hl : (own ++ outs).length ≤ 6 := by rw [List.length_append]; omega
  refine ⟨by omega, this.ok, ?_, fun hne => this.some (fun h => hne (List.append_eq_nil_iff.1 h).2)⟩
  have : (3 * c + 9) * (own ++ outs).length ≤ (3 * c + 9) * 6 := Nat.mul_le_mul_left _ hl
  show (Qu.alls l).length ≤ _
  omega
def cK : Nat → Nat
  | 0 => 54
  | d + 1 => 6 * (3 * cK d + 9)
theorem bk_ok (subs : Int) : ∀ d, BkOk (GBk d subs) (cK d)
  | 0 => blk_ok (c := 0) (fun _ _ _ _ _ _ h => h.elim) subs
  | d + 1 => blk_ok (bk_ok subs d) subs
theorem nodes_ok {ns : List No} (h : GNodes ns) (k : Nat) (hk : k < ns.length) : (∀ e ∈ Qu.alls ns[k].b.eqs, okE e) ∧ (Qu.alls ns[k].b.eqs).length ≤ 2 ^ 30 ∧ Qu.alls ns[k].b.eqs ≠ [] := by
  obtain ⟨l, e, b, n', h1, hn, h2, h3⟩ := h k hk
  have := bk_ok (k : Int) 3 _ _ _ _ _ (by simp [nOuts]) h2
  rw [h3]
  refine ⟨this.ok, Nat.le_trans this.few ?_, this.some (by simp [nOuts])⟩
  have : cK 3 = 333450 := rfl
  omega
end Go.Proofs.Ytibhhoknipdlpaa

/-
  The law of reading on values without addresses.
-/
set_option linter.unusedVariables false
set_option linter.unusedSimpArgs false
namespace Go.Proofs.Ytibhhoknipdlpaa
open Go
set_option linter.defProp false
def tfAbReads := And.intro @td_3 (And.intro @zv_3 (And.intro @Try.underlying3 (And.intro @td_4 (And.intro @zv_4 (And.intro @Try.underlying4 (And.intro @td_5 (And.intro @zv_5 (And.intro @Try.underlying5 (And.intro @td_9 (And.intro @zv_9 (And.intro @Try.underlying9 (And.intro @td_21 (And.intro @zv_21 (And.intro @Try.underlying21 (And.intro @td_22 (And.intro @zv_22 (And.intro @tel_22 (And.intro @Try.underlying22 (And.intro @td_26 (And.intro @zv_26 (And.intro @tel_26 (And.intro @Try.underlying26 (And.intro @td_28 (And.intro @zv_28 (And.intro @tf_28 (And.intro @td_30 (And.intro @zv_30 (And.intro @tel_30 (And.intro @Try.underlying30 (And.intro @td_32 (And.intro @zv_32 (And.intro @tel_32 (And.intro @Try.underlying32 (And.intro @td_33 (And.intro @zv_33 (And.intro @tel_33 (And.intro @Try.underlying33 (And.intro @td_35 (And.intro @zv_35 (And.intro @tf_35 (And.intro @td_39 (And.intro @zv_39 (And.intro @tf_39 (And.intro @td_41 (And.intro @zv_41 (And.intro @tel_41 (And.intro @Try.underlying41 (And.intro @td_44 (And.intro @zv_44 (And.intro @tf_44 (And.intro @Ex.settle_pv (And.intro @Ex.pure_pv (And.intro @Ex.cells_pv (And.intro @Ex.cs.eq_1 (And.intro @On.pv.eq_1 (And.intro @Ty.pv.eq_1 (And.intro @Va.settle_pv (And.intro @Va.pure_pv (And.intro @Va.cells_pv (And.intro @Va.cs.eq_1 (And.intro @No.settle_pv (And.intro @No.pure_pv (And.intro @No.cells_pv @No.cs.eq_1)))))))))))))))))))))))))))))))))))))))))))))))))))))))))))))))
-- EXX: No.settle_pv, No.pure_pv, No.cells_pv, No.cs
-- TYPES: 3 4 5 9 21 22 26 28 30 32 33 35 39 41 44

set_option maxRecDepth 20000 in
set_option maxHeartbeats 8000000 in
theorem treeReads_any (l : List Int) (hel : ∀ x ∈ l, 0 ≤ x ∧ x ≤ 255) (a : PV) (m : M) : ACalls Try.prog 3 [.sl .no (l.map pU), a] m (fun v m' => v = pB true) := by
  refine ACalls.enter (mu := []) ok_mix Try.func3 rfl (by kernel_rfl) (by kernel_rfl) (by simp only [List.length_cons, List.length_nil, Try.ntmps3]; omega) ?_
  (repeat (first | (refine aSeq (fun X hX => ?_)) | (refine aBlk ?_) | (refine aSkip ?_) | ((first | refine aReg ?_ | refine aDrw (fun m2 => m2 = _) (by kernel_rfl) rfl ?_); simp -implicitDefEqProofs only [forall_eq, ↓slp, slb, ↓reduceIte, reduceCtorEq, Nat.reduceEqDiff, Nat.reduceAdd, Nat.reduceMul, Nat.reduceLT, Nat.reduceLeDiff, Nat.reduceBEq, Nat.reduceBNe, Int.reduceLE, Int.reduceLT, Int.reduceToNat, Int.reduceEq, tfAbReads]; try simp only [Ex.fold, Ex.foldcs, ← Va.pv.eq_1]) | (refine aIf ?_; simp -implicitDefEqProofs only [↓slp, slb, ↓reduceIte, reduceCtorEq, Nat.reduceEqDiff, Nat.reduceAdd, Nat.reduceMul, Nat.reduceLT, Nat.reduceLeDiff, Nat.reduceBEq, Nat.reduceBNe, Int.reduceLE, Int.reduceLT, Int.reduceToNat, Int.reduceEq]) | (refine aExit ?_; simp only [slx, ↓reduceIte, Nat.reduceEqDiff, reduceCtorEq]) | (refine aRet ?_; try simp only [slx, ↓reduceIte, Nat.reduceEqDiff, reduceCtorEq]) | (refine hX _ _ ?_; clear hX X) | (clear hX X; refine hX _ _ ?_; clear hX X) | (clear hX X; clear hX X; refine hX _ _ ?_; clear hX X) | (intro hlen; unfold maxLen at hlen) | (apply And.intro; (focus (first | omega | assumption | (repeat' apply And.intro) <;> first | omega | assumption)))))
  refine callM (awake_any m) ?_
  rintro v m' ⟨rfl, rfl⟩
  simp -implicitDefEqProofs only [↓slp, slb, ↓reduceIte, reduceCtorEq, Nat.reduceEqDiff, Nat.reduceAdd, Nat.reduceMul, Nat.reduceLT, Nat.reduceLeDiff, Nat.reduceBEq, Nat.reduceBNe, Int.reduceLE, Int.reduceLT, Int.reduceToNat, Int.reduceEq, tfAbReads, pB]; try simp only [Ex.fold, Ex.foldcs, ← Va.pv.eq_1]
  (repeat (first | (refine aSeq (fun X hX => ?_)) | (refine aBlk ?_) | (refine aSkip ?_) | ((first | refine aReg ?_ | refine aDrw (fun m2 => m2 = _) (by kernel_rfl) rfl ?_); simp -implicitDefEqProofs only [forall_eq, ↓slp, slb, ↓reduceIte, reduceCtorEq, Nat.reduceEqDiff, Nat.reduceAdd, Nat.reduceMul, Nat.reduceLT, Nat.reduceLeDiff, Nat.reduceBEq, Nat.reduceBNe, Int.reduceLE, Int.reduceLT, Int.reduceToNat, Int.reduceEq, tfAbReads, pB]; try simp only [Ex.fold, Ex.foldcs, ← Va.pv.eq_1]) | (refine aIf ?_; simp -implicitDefEqProofs only [↓slp, slb, ↓reduceIte, reduceCtorEq, Nat.reduceEqDiff, Nat.reduceAdd, Nat.reduceMul, Nat.reduceLT, Nat.reduceLeDiff, Nat.reduceBEq, Nat.reduceBNe, Int.reduceLE, Int.reduceLT, Int.reduceToNat, Int.reduceEq, pB]) | (refine aExit ?_; simp only [slx, ↓reduceIte, Nat.reduceEqDiff, reduceCtorEq]) | (refine aRet ?_; try simp only [slx, ↓reduceIte, Nat.reduceEqDiff, reduceCtorEq]) | (refine hX _ _ ?_; clear hX X) | (clear hX X; refine hX _ _ ?_; clear hX X) | (clear hX X; clear hX X; refine hX _ _ ?_; clear hX X) | (intro hlen; unfold maxLen at hlen) | (apply And.intro; (focus (first | omega | assumption | (repeat' apply And.intro) <;> first | omega | assumption)))))
  refine ⟨fun cl => ?_, fun cl => ?_⟩
  · (repeat (first | (refine aSeq (fun X hX => ?_)) | (refine aBlk ?_) | (refine aSkip ?_) | ((first | refine aReg ?_ | refine aDrw (fun m2 => m2 = _) (by kernel_rfl) rfl ?_); simp -implicitDefEqProofs only [forall_eq, ↓slp, slb, ↓reduceIte, reduceCtorEq, Nat.reduceEqDiff, Nat.reduceAdd, Nat.reduceMul, Nat.reduceLT, Nat.reduceLeDiff, Nat.reduceBEq, Nat.reduceBNe, Int.reduceLE, Int.reduceLT, Int.reduceToNat, Int.reduceEq, tfAbReads, pB]; try simp only [Ex.fold, Ex.foldcs, ← Va.pv.eq_1]) | (refine aIf ?_; simp -implicitDefEqProofs only [↓slp, slb, ↓reduceIte, reduceCtorEq, Nat.reduceEqDiff, Nat.reduceAdd, Nat.reduceMul, Nat.reduceLT, Nat.reduceLeDiff, Nat.reduceBEq, Nat.reduceBNe, Int.reduceLE, Int.reduceLT, Int.reduceToNat, Int.reduceEq, pB]) | (refine aExit ?_; simp only [slx, ↓reduceIte, Nat.reduceEqDiff, reduceCtorEq]) | (refine aRet ?_; try simp only [slx, ↓reduceIte, Nat.reduceEqDiff, reduceCtorEq]) | (refine hX _ _ ?_; clear hX X) | (clear hX X; refine hX _ _ ?_; clear hX X) | (clear hX X; clear hX X; refine hX _ _ ?_; clear hX X) | (intro hlen; unfold maxLen at hlen) | (apply And.intro; (focus (first | omega | assumption | (repeat' apply And.intro) <;> first | omega | assumption)))))
    refine callM (awake_any _) ?_
    rintro v m' ⟨rfl, rfl⟩
    simp -implicitDefEqProofs only [↓slp, slb, ↓reduceIte, reduceCtorEq, Nat.reduceEqDiff, Nat.reduceAdd, Nat.reduceMul, Nat.reduceLT, Nat.reduceLeDiff, Nat.reduceBEq, Nat.reduceBNe, Int.reduceLE, Int.reduceLT, Int.reduceToNat, Int.reduceEq, tfAbReads, pB]; try simp only [Ex.fold, Ex.foldcs, ← Va.pv.eq_1]
    (repeat (first | (refine aSeq (fun X hX => ?_)) | (refine aBlk ?_) | (refine aSkip ?_) | ((first | refine aReg ?_ | refine aDrw (fun m2 => m2 = _) (by kernel_rfl) rfl ?_); simp -implicitDefEqProofs only [forall_eq, ↓slp, slb, ↓reduceIte, reduceCtorEq, Nat.reduceEqDiff, Nat.reduceAdd, Nat.reduceMul, Nat.reduceLT, Nat.reduceLeDiff, Nat.reduceBEq, Nat.reduceBNe, Int.reduceLE, Int.reduceLT, Int.reduceToNat, Int.reduceEq, tfAbReads, pB]; try simp only [Ex.fold, Ex.foldcs, ← Va.pv.eq_1]) | (refine aIf ?_; simp -implicitDefEqProofs only [↓slp, slb, ↓reduceIte, reduceCtorEq, Nat.reduceEqDiff, Nat.reduceAdd, Nat.reduceMul, Nat.reduceLT, Nat.reduceLeDiff, Nat.reduceBEq, Nat.reduceBNe, Int.reduceLE, Int.reduceLT, Int.reduceToNat, Int.reduceEq, pB]) | (refine aExit ?_; simp only [slx, ↓reduceIte, Nat.reduceEqDiff, reduceCtorEq]) | (refine aRet ?_; try simp only [slx, ↓reduceIte, Nat.reduceEqDiff, reduceCtorEq]) | (refine hX _ _ ?_; clear hX X) | (clear hX X; refine hX _ _ ?_; clear hX X) | (clear hX X; clear hX X; refine hX _ _ ?_; clear hX X) | (intro hlen; unfold maxLen at hlen) | (apply And.intro; (focus (first | omega | assumption | (repeat' apply And.intro) <;> first | omega | assumption)))))
    simp only [aPost, Try.results3, aRes_n, aRes_t, aRes_c, pack_one, pack_two]
    exact leave_same rfl rfl
  have hl : l.length ≤ 400 := by have := of_decide_eq_false cl; omega
  (repeat (first | (refine aSeq (fun X hX => ?_)) | (refine aBlk ?_) | (refine aSkip ?_) | ((first | refine aReg ?_ | refine aDrw (fun m2 => m2 = _) (by kernel_rfl) rfl ?_); simp -implicitDefEqProofs only [forall_eq, ↓slp, slb, ↓reduceIte, reduceCtorEq, Nat.reduceEqDiff, Nat.reduceAdd, Nat.reduceMul, Nat.reduceLT, Nat.reduceLeDiff, Nat.reduceBEq, Nat.reduceBNe, Int.reduceLE, Int.reduceLT, Int.reduceToNat, Int.reduceEq, tfAbReads, pB]; try simp only [Ex.fold, Ex.foldcs, ← Va.pv.eq_1]) | (refine aIf ?_; simp -implicitDefEqProofs only [↓slp, slb, ↓reduceIte, reduceCtorEq, Nat.reduceEqDiff, Nat.reduceAdd, Nat.reduceMul, Nat.reduceLT, Nat.reduceLeDiff, Nat.reduceBEq, Nat.reduceBNe, Int.reduceLE, Int.reduceLT, Int.reduceToNat, Int.reduceEq, pB]) | (refine aExit ?_; simp only [slx, ↓reduceIte, Nat.reduceEqDiff, reduceCtorEq]) | (refine aRet ?_; try simp only [slx, ↓reduceIte, Nat.reduceEqDiff, reduceCtorEq]) | (refine hX _ _ ?_; clear hX X) | (clear hX X; refine hX _ _ ?_; clear hX X) | (clear hX X; clear hX X; refine hX _ _ ?_; clear hX X) | (intro hlen; unfold maxLen at hlen) | (apply And.intro; (focus (first | omega | assumption | (repeat' apply And.intro) <;> first | omega | assumption)))))
  refine callM (make_any l (by omega) hel _) ?_
  rintro v m' ⟨ns, rfl, hnl, hns, rfl⟩
  simp -implicitDefEqProofs only [↓slp, slb, ↓reduceIte, reduceCtorEq, Nat.reduceEqDiff, Nat.reduceAdd, Nat.reduceMul, Nat.reduceLT, Nat.reduceLeDiff, Nat.reduceBEq, Nat.reduceBNe, Int.reduceLE, Int.reduceLT, Int.reduceToNat, Int.reduceEq, tfAbReads, pB]; try simp only [Ex.fold, Ex.foldcs, ← Va.pv.eq_1]
  (repeat (first | (refine aSeq (fun X hX => ?_)) | (refine aBlk ?_) | (refine aSkip ?_) | ((first | refine aReg ?_ | refine aDrw (fun m2 => m2 = _) (by kernel_rfl) rfl ?_); simp -implicitDefEqProofs only [forall_eq, ↓slp, slb, ↓reduceIte, reduceCtorEq, Nat.reduceEqDiff, Nat.reduceAdd, Nat.reduceMul, Nat.reduceLT, Nat.reduceLeDiff, Nat.reduceBEq, Nat.reduceBNe, Int.reduceLE, Int.reduceLT, Int.reduceToNat, Int.reduceEq, tfAbReads, pB]; try simp only [Ex.fold, Ex.foldcs, ← Va.pv.eq_1]) | (refine aIf ?_; simp -implicitDefEqProofs only [↓slp, slb, ↓reduceIte, reduceCtorEq, Nat.reduceEqDiff, Nat.reduceAdd, Nat.reduceMul, Nat.reduceLT, Nat.reduceLeDiff, Nat.reduceBEq, Nat.reduceBNe, Int.reduceLE, Int.reduceLT, Int.reduceToNat, Int.reduceEq, pB]) | (refine aExit ?_; simp only [slx, ↓reduceIte, Nat.reduceEqDiff, reduceCtorEq]) | (refine aRet ?_; try simp only [slx, ↓reduceIte, Nat.reduceEqDiff, reduceCtorEq]) | (refine hX _ _ ?_; clear hX X) | (clear hX X; refine hX _ _ ?_; clear hX X) | (clear hX X; clear hX X; refine hX _ _ ?_; clear hX X) | (intro hlen; unfold maxLen at hlen) | (apply And.intro; (focus (first | omega | assumption | (repeat' apply And.intro) <;> first | omega | assumption)))))
  obtain ⟨I, hI⟩ : ∃ I : F → M → Prop, ∀ f m2, I f m2 = (∃ (k : Nat) (es : List Ex) (o : Own) (mm : M), k ≤ ns.length ∧ f 5 = .ep [.sl .no [.ag colC], .sl .no (ns.map No.pv)] ∧ f 6 = .sl o (es.map Ex.pv) ∧ f 7 = pI k ∧ (∀ e ∈ es, okE e) ∧ es.length ≤ k * 2 ^ 30 ∧ (0 < k → es ≠ []) ∧ Toks m' mm ∧ Mine m' mm o 8 ∧ m2 = mm) := ⟨_, fun _ _ => rfl⟩
  refine aLoop I (fun f m => ns.length - numOf (f 7)) ?_ ?_
  · rw [hI]; exact ⟨0, [], .full, m', by omega, rfl, rfl, rfl, (fun e he => by cases he), by simp, (fun h => absurd h (Nat.lt_irrefl _)), .refl m', .full, rfl⟩
  intro f m1 hrel
  rw [hI] at hrel
  obtain ⟨k, es, o, mm, hk, h5, h6, h7, hes, hel1, hne, ht, g2, rfl⟩ := hrel
  (repeat (first | (refine aSeq (fun X hX => ?_)) | (refine aBlk ?_) | (refine aSkip ?_) | ((first | refine aReg ?_ | refine aDrw (fun m2 => m2 = _) (by kernel_rfl) rfl ?_); simp -implicitDefEqProofs only [forall_eq, ↓slp, slb, ↓reduceIte, reduceCtorEq, Nat.reduceEqDiff, Nat.reduceAdd, Nat.reduceMul, Nat.reduceLT, Nat.reduceLeDiff, Nat.reduceBEq, Nat.reduceBNe, Int.reduceLE, Int.reduceLT, Int.reduceToNat, Int.reduceEq, tfAbReads, h5, h6, h7, pI]; try simp only [Ex.fold, Ex.foldcs, ← Va.pv.eq_1]) | (refine aExit ?_; simp only [slx, ↓reduceIte, Nat.reduceEqDiff, reduceCtorEq]) | (refine aRet ?_; try simp only [slx, ↓reduceIte, Nat.reduceEqDiff, reduceCtorEq]) | (refine hX _ _ ?_; clear hX X) | (clear hX X; refine hX _ _ ?_; clear hX X) | (clear hX X; clear hX X; refine hX _ _ ?_; clear hX X) | (intro hlen; unfold maxLen at hlen) | (apply And.intro; (focus (first | omega | assumption | (repeat' apply And.intro) <;> first | omega | assumption)))))
  refine aIf ?_; simp -implicitDefEqProofs only [↓slp, slb, ↓reduceIte, reduceCtorEq, Nat.reduceEqDiff, Nat.reduceAdd, Nat.reduceMul, Nat.reduceLT, Nat.reduceLeDiff, Nat.reduceBEq, Nat.reduceBNe, Int.reduceLE, Int.reduceLT, Int.reduceToNat, Int.reduceEq]; refine ⟨fun hb => ?_, fun hb => ?_⟩
  · have hlt : k < ns.length := by simpa using hb
    have g0 := getD_map No.pv ns k hlt
    have hi : IntKind.i64.wrap ((k : Int) + 1) = ((k + 1 : Nat) : Int) := by rw [wrap64 (by omega)]; omega
    have hmu : numOf (f 7) = k := by rw [h7]; rfl
    obtain ⟨n1, n2, n3⟩ := nodes_ok hns k hlt
    have hkb : k * 2 ^ 30 ≤ 3 * 2 ^ 30 := Nat.mul_le_mul_right _ (by omega)
    (repeat (first | (refine aSeq (fun X hX => ?_)) | (refine aBlk ?_) | (refine aSkip ?_) | ((first | refine aReg ?_ | refine aDrw (fun m2 => m2 = _) (by kernel_rfl) rfl ?_); simp -implicitDefEqProofs only [forall_eq, ↓slp, slb, ↓reduceIte, reduceCtorEq, Nat.reduceEqDiff, Nat.reduceAdd, Nat.reduceMul, Nat.reduceLT, Nat.reduceLeDiff, Nat.reduceBEq, Nat.reduceBNe, Int.reduceLE, Int.reduceLT, Int.reduceToNat, Int.reduceEq, tfAbReads, h5, h6, h7, pI, g0]; try simp only [Ex.fold, Ex.foldcs, ← Va.pv.eq_1]) | (refine aIf ?_; simp -implicitDefEqProofs only [↓slp, slb, ↓reduceIte, reduceCtorEq, Nat.reduceEqDiff, Nat.reduceAdd, Nat.reduceMul, Nat.reduceLT, Nat.reduceLeDiff, Nat.reduceBEq, Nat.reduceBNe, Int.reduceLE, Int.reduceLT, Int.reduceToNat, Int.reduceEq, h5, h6, h7, pI, g0]) | (refine aExit ?_; simp only [slx, ↓reduceIte, Nat.reduceEqDiff, reduceCtorEq]) | (refine aRet ?_; try simp only [slx, ↓reduceIte, Nat.reduceEqDiff, reduceCtorEq]) | (refine hX _ _ ?_; clear hX X) | (clear hX X; refine hX _ _ ?_; clear hX X) | (clear hX X; clear hX X; refine hX _ _ ?_; clear hX X) | (intro hlen; unfold maxLen at hlen) | (apply And.intro; (focus (first | omega | assumption | (repeat' apply And.intro) <;> first | omega | assumption)))))
    refine callM (gather_any (SizeOf.sizeOf ns[k].b.eqs) ns[k].b o es _ (Nat.le_refl _) g2.free (by omega)) ?_
    rintro v m2 ⟨rfl, rfl⟩
    simp -implicitDefEqProofs only [↓slp, slb, ↓reduceIte, reduceCtorEq, Nat.reduceEqDiff, Nat.reduceAdd, Nat.reduceMul, Nat.reduceLT, Nat.reduceLeDiff, Nat.reduceBEq, Nat.reduceBNe, Int.reduceLE, Int.reduceLT, Int.reduceToNat, Int.reduceEq, tfAbReads, h5, h6, h7, pI, g0]; try simp only [Ex.fold, Ex.foldcs, ← Va.pv.eq_1]
    (repeat (first | (refine aSeq (fun X hX => ?_)) | (refine aBlk ?_) | (refine aSkip ?_) | ((first | refine aReg ?_ | refine aDrw (fun m2 => m2 = _) (by kernel_rfl) rfl ?_); simp -implicitDefEqProofs only [forall_eq, ↓slp, slb, ↓reduceIte, reduceCtorEq, Nat.reduceEqDiff, Nat.reduceAdd, Nat.reduceMul, Nat.reduceLT, Nat.reduceLeDiff, Nat.reduceBEq, Nat.reduceBNe, Int.reduceLE, Int.reduceLT, Int.reduceToNat, Int.reduceEq, tfAbReads, h5, h6, h7, pI, hi]; try simp only [Ex.fold, Ex.foldcs, ← Va.pv.eq_1]) | (refine aIf ?_; simp -implicitDefEqProofs only [↓slp, slb, ↓reduceIte, reduceCtorEq, Nat.reduceEqDiff, Nat.reduceAdd, Nat.reduceMul, Nat.reduceLT, Nat.reduceLeDiff, Nat.reduceBEq, Nat.reduceBNe, Int.reduceLE, Int.reduceLT, Int.reduceToNat, Int.reduceEq, h5, h6, h7, pI, hi]) | (refine aExit ?_; simp only [slx, ↓reduceIte, Nat.reduceEqDiff, reduceCtorEq]) | (refine aRet ?_; try simp only [slx, ↓reduceIte, Nat.reduceEqDiff, reduceCtorEq]) | (refine hX _ _ ?_; clear hX X) | (clear hX X; refine hX _ _ ?_; clear hX X) | (clear hX X; clear hX X; refine hX _ _ ?_; clear hX X) | (intro hlen; unfold maxLen at hlen) | (apply And.intro; (focus (first | omega | assumption | (repeat' apply And.intro) <;> first | omega | assumption)))))
    rw [hI]
    refine ⟨⟨k + 1, es ++ Qu.alls ns[k].b.eqs, _, _, hlt, h5, rfl, rfl, ?_, ?_, ?_, ht.use (s := 8) g2, Mine.new ht o 8, rfl⟩, by omega⟩
    · intro e he
      exact (List.mem_append.1 he).elim (hes e) (n1 e)
    · rw [List.length_append, Nat.add_mul]; omega
    · intro _ h0
      exact n3 (List.append_eq_nil_iff.1 h0).2
  · have hlt : k = ns.length := by simp at hb; omega
    have hne := hne (by omega)
    have hkb : k * 2 ^ 30 ≤ 3 * 2 ^ 30 := Nat.mul_le_mul_right _ (by omega)
    (repeat (first | (refine aSeq (fun X hX => ?_)) | (refine aBlk ?_) | (refine aSkip ?_) | ((first | refine aReg ?_ | refine aDrw (fun m2 => m2 = _) (by kernel_rfl) rfl ?_); simp -implicitDefEqProofs only [forall_eq, ↓slp, slb, ↓reduceIte, reduceCtorEq, Nat.reduceEqDiff, Nat.reduceAdd, Nat.reduceMul, Nat.reduceLT, Nat.reduceLeDiff, Nat.reduceBEq, Nat.reduceBNe, Int.reduceLE, Int.reduceLT, Int.reduceToNat, Int.reduceEq, tfAbReads, h5, h6, h7, pI]; try simp only [Ex.fold, Ex.foldcs, ← Va.pv.eq_1]) | (refine aIf ?_; simp -implicitDefEqProofs only [↓slp, slb, ↓reduceIte, reduceCtorEq, Nat.reduceEqDiff, Nat.reduceAdd, Nat.reduceMul, Nat.reduceLT, Nat.reduceLeDiff, Nat.reduceBEq, Nat.reduceBNe, Int.reduceLE, Int.reduceLT, Int.reduceToNat, Int.reduceEq, h5, h6, h7, pI]) | (refine aExit ?_; simp only [slx, ↓reduceIte, Nat.reduceEqDiff, reduceCtorEq]) | (refine aRet ?_; try simp only [slx, ↓reduceIte, Nat.reduceEqDiff, reduceCtorEq]) | (refine hX _ _ ?_; clear hX X) | (clear hX X; refine hX _ _ ?_; clear hX X) | (clear hX X; clear hX X; refine hX _ _ ?_; clear hX X) | (intro hlen; unfold maxLen at hlen) | (apply And.intro; (focus (first | omega | assumption | (repeat' apply And.intro) <;> first | omega | assumption)))))
    obtain ⟨I2, hI2⟩ : ∃ I2 : F → M → Prop, ∀ f m2, I2 f m2 = (∃ (j : Nat) (mm : M), j ≤ es.length ∧ f 6 = .sl o (es.map Ex.pv) ∧ f 8 = pI j ∧ Toks m' mm ∧ m2 = mm) := ⟨_, fun _ _ => rfl⟩
    refine aLoop I2 (fun f m => es.length - numOf (f 8)) ?_ ?_
    · rw [hI2]; exact ⟨0, _, by omega, h6, rfl, ht, rfl⟩
    intro f m1 hrel
    rw [hI2] at hrel
    clear h5 h6 h7 hb ht g2
    obtain ⟨j, mm, hj, h6, h8, ht, rfl⟩ := hrel
    (repeat (first | (refine aSeq (fun X hX => ?_)) | (refine aBlk ?_) | (refine aSkip ?_) | ((first | refine aReg ?_ | refine aDrw (fun m2 => m2 = _) (by kernel_rfl) rfl ?_); simp -implicitDefEqProofs only [forall_eq, ↓slp, slb, ↓reduceIte, reduceCtorEq, Nat.reduceEqDiff, Nat.reduceAdd, Nat.reduceMul, Nat.reduceLT, Nat.reduceLeDiff, Nat.reduceBEq, Nat.reduceBNe, Int.reduceLE, Int.reduceLT, Int.reduceToNat, Int.reduceEq, tfAbReads, h6, h8, pI]; try simp only [Ex.fold, Ex.foldcs, ← Va.pv.eq_1]) | (refine aExit ?_; simp only [slx, ↓reduceIte, Nat.reduceEqDiff, reduceCtorEq]) | (refine aRet ?_; try simp only [slx, ↓reduceIte, Nat.reduceEqDiff, reduceCtorEq]) | (refine hX _ _ ?_; clear hX X) | (clear hX X; refine hX _ _ ?_; clear hX X) | (clear hX X; clear hX X; refine hX _ _ ?_; clear hX X) | (intro hlen; unfold maxLen at hlen) | (apply And.intro; (focus (first | omega | assumption | (repeat' apply And.intro) <;> first | omega | assumption)))))
    refine aIf ?_; simp -implicitDefEqProofs only [↓slp, slb, ↓reduceIte, reduceCtorEq, Nat.reduceEqDiff, Nat.reduceAdd, Nat.reduceMul, Nat.reduceLT, Nat.reduceLeDiff, Nat.reduceBEq, Nat.reduceBNe, Int.reduceLE, Int.reduceLT, Int.reduceToNat, Int.reduceEq]; refine ⟨fun hb => ?_, fun hb => ?_⟩
    · have hlt2 : j < es.length := by simpa using hb
      have g0 := getD_map Ex.pv es j hlt2
      have hi : IntKind.i64.wrap ((j : Int) + 1) = ((j + 1 : Nat) : Int) := by rw [wrap64 (by omega)]; omega
      have hmu : numOf (f 8) = j := by rw [h8]; rfl
      obtain ⟨hs1, hs2⟩ := hes _ (List.getElem_mem hlt2)
      obtain ⟨e, he⟩ : ∃ e, es[j] = e := ⟨_, rfl⟩
      rw [he] at g0 hs1 hs2
      have same : ∀ l : List Str, sameL eqS l l = true := fun l => (sameL_iff (fun a b => eqS_iff)).2 rfl
      have lit : ∀ b : Bool, PV.v (Value.bool b) = pB b := fun _ => rfl
      (repeat (first | (refine aSeq (fun X hX => ?_)) | (refine aBlk ?_) | (refine aSkip ?_) | (refine aExit ?_; simp only [slx, ↓reduceIte, Nat.reduceEqDiff, reduceCtorEq]) | (refine aRet ?_; try simp only [slx, ↓reduceIte, Nat.reduceEqDiff, reduceCtorEq]) | (refine hX _ _ ?_; clear hX X) | (clear hX X; refine hX _ _ ?_; clear hX X)))
      refine aDrw (fun _ => True) (by kernel_rfl) trivial ?_; simp -implicitDefEqProofs only [forall_eq, eq_self, ↓slp, slb, ↓reduceIte, reduceCtorEq, Nat.reduceEqDiff, Nat.reduceAdd, Nat.reduceMul, Nat.reduceLT, Nat.reduceLeDiff, Nat.reduceBEq, Nat.reduceBNe, Int.reduceLE, Int.reduceLT, Int.reduceToNat, Int.reduceEq, tfAbReads, h6, h8, pI, g0]; try simp only [Ex.fold, Ex.foldcs, ← Va.pv.eq_1]
      refine ⟨hlt2, ?_⟩
      refine callM (Reads_any e _ (shp_okr e hs1) (by omega)) ?_
      rintro v m2 ⟨rfl, rfl⟩
      refine ⟨trivial, ?_⟩
      simp -implicitDefEqProofs only [↓slp, slb, ↓reduceIte, reduceCtorEq, Nat.reduceEqDiff, Nat.reduceAdd, Nat.reduceMul, Nat.reduceLT, Nat.reduceLeDiff, Nat.reduceBEq, Nat.reduceBNe, Int.reduceLE, Int.reduceLT, Int.reduceToNat, Int.reduceEq, tfAbReads, h6, h8, pI, g0, pB]; try simp only [Ex.fold, Ex.foldcs, ← Va.pv.eq_1]
      (repeat (first | (intro hlen; unfold maxLen at hlen) | (apply And.intro; (focus (first | omega | assumption | trivial | (repeat' apply And.intro) <;> first | omega | assumption | trivial)))))
      refine callMS (rReads_any true e [] _ hs1 (by simp; omega)) (by simp only [List.map_cons, List.map_nil, PV.settle, Ex.settle_pv]) ?_
      rintro v m2 ⟨rfl, rfl⟩
      refine ⟨trivial, ?_⟩
      simp -implicitDefEqProofs only [↓slp, slb, ↓reduceIte, reduceCtorEq, Nat.reduceEqDiff, Nat.reduceAdd, Nat.reduceMul, Nat.reduceLT, Nat.reduceLeDiff, Nat.reduceBEq, Nat.reduceBNe, Int.reduceLE, Int.reduceLT, Int.reduceToNat, Int.reduceEq, tfAbReads, h6, h8, pI, g0, pB]; try simp only [Ex.fold, Ex.foldcs, ← Va.pv.eq_1]
      refine callM (sameNames_any _ .no _ _ _) ?_
      rintro v m2 ⟨rfl, rfl⟩
      refine ⟨trivial, ?_⟩
      rw [same]
      simp -implicitDefEqProofs only [↓slp, slb, ↓reduceIte, reduceCtorEq, Nat.reduceEqDiff, Nat.reduceAdd, Nat.reduceMul, Nat.reduceLT, Nat.reduceLeDiff, Nat.reduceBEq, Nat.reduceBNe, Int.reduceLE, Int.reduceLT, Int.reduceToNat, Int.reduceEq, tfAbReads, h6, h8, pI, g0, pB]; try simp only [Ex.fold, Ex.foldcs, ← Va.pv.eq_1]
      (repeat (first | (intro hlen; unfold maxLen at hlen) | (apply And.intro; (focus (first | omega | assumption | trivial | (repeat' apply And.intro) <;> first | omega | assumption | trivial)))))
      refine callM (All_any e _ (shp_okr e hs1) (by omega)) ?_
      rintro v m2 ⟨rfl, rfl⟩
      refine ⟨trivial, ?_⟩
      simp -implicitDefEqProofs only [↓slp, slb, ↓reduceIte, reduceCtorEq, Nat.reduceEqDiff, Nat.reduceAdd, Nat.reduceMul, Nat.reduceLT, Nat.reduceLeDiff, Nat.reduceBEq, Nat.reduceBNe, Int.reduceLE, Int.reduceLT, Int.reduceToNat, Int.reduceEq, tfAbReads, h6, h8, pI, g0, pB]; try simp only [Ex.fold, Ex.foldcs, ← Va.pv.eq_1]
      (repeat (first | (intro hlen; unfold maxLen at hlen) | (apply And.intro; (focus (first | omega | assumption | trivial | (repeat' apply And.intro) <;> first | omega | assumption | trivial)))))
      refine callMS (rReads_any false e [] _ hs1 (by simp; omega)) (by simp only [List.map_cons, List.map_nil, PV.settle, Ex.settle_pv]) ?_
      rintro v m2 ⟨rfl, rfl⟩
      refine ⟨trivial, ?_⟩
      simp -implicitDefEqProofs only [↓slp, slb, ↓reduceIte, reduceCtorEq, Nat.reduceEqDiff, Nat.reduceAdd, Nat.reduceMul, Nat.reduceLT, Nat.reduceLeDiff, Nat.reduceBEq, Nat.reduceBNe, Int.reduceLE, Int.reduceLT, Int.reduceToNat, Int.reduceEq, tfAbReads, h6, h8, pI, g0, pB]; try simp only [Ex.fold, Ex.foldcs, ← Va.pv.eq_1]
      refine callM (sameNames_any _ .no _ _ _) ?_
      rintro v m2 ⟨rfl, rfl⟩
      refine ⟨trivial, ?_⟩
      rw [same]
      simp -implicitDefEqProofs only [↓slp, slb, ↓reduceIte, reduceCtorEq, Nat.reduceEqDiff, Nat.reduceAdd, Nat.reduceMul, Nat.reduceLT, Nat.reduceLeDiff, Nat.reduceBEq, Nat.reduceBNe, Int.reduceLE, Int.reduceLT, Int.reduceToNat, Int.reduceEq, tfAbReads, h6, h8, pI, g0, pB]; try simp only [Ex.fold, Ex.foldcs, ← Va.pv.eq_1]
      (repeat (first | (intro hlen; unfold maxLen at hlen) | (apply And.intro; (focus (first | omega | assumption | trivial | (repeat' apply And.intro) <;> first | omega | assumption | trivial)))))
      refine callM (Lasts_any e _ (by omega)) ?_
      rintro v m2 ⟨rfl, rfl⟩
      refine ⟨trivial, ?_⟩
      simp -implicitDefEqProofs only [↓slp, slb, ↓reduceIte, reduceCtorEq, Nat.reduceEqDiff, Nat.reduceAdd, Nat.reduceMul, Nat.reduceLT, Nat.reduceLeDiff, Nat.reduceBEq, Nat.reduceBNe, Int.reduceLE, Int.reduceLT, Int.reduceToNat, Int.reduceEq, tfAbReads, h6, h8, pI, g0, pB]; try simp only [Ex.fold, Ex.foldcs, ← Va.pv.eq_1]
      (repeat (first | (intro hlen; unfold maxLen at hlen) | (apply And.intro; (focus (first | omega | assumption | trivial | (repeat' apply And.intro) <;> first | omega | assumption | trivial)))))
      refine callMS (rLasts_any e [] _ (by simp; omega)) (by simp only [List.map_cons, List.map_nil, PV.settle, Ex.settle_pv]) ?_
      rintro v m2 ⟨rfl, rfl⟩
      refine ⟨trivial, ?_⟩
      simp -implicitDefEqProofs only [↓slp, slb, ↓reduceIte, reduceCtorEq, Nat.reduceEqDiff, Nat.reduceAdd, Nat.reduceMul, Nat.reduceLT, Nat.reduceLeDiff, Nat.reduceBEq, Nat.reduceBNe, Int.reduceLE, Int.reduceLT, Int.reduceToNat, Int.reduceEq, tfAbReads, h6, h8, pI, g0, pB]; try simp only [Ex.fold, Ex.foldcs, ← Va.pv.eq_1]
      refine callM (sameNames_any _ .no _ _ _) ?_
      rintro v m2 ⟨rfl, rfl⟩
      refine ⟨trivial, ?_⟩
      rw [same]
      simp -implicitDefEqProofs only [↓slp, slb, ↓reduceIte, reduceCtorEq, Nat.reduceEqDiff, Nat.reduceAdd, Nat.reduceMul, Nat.reduceLT, Nat.reduceLeDiff, Nat.reduceBEq, Nat.reduceBNe, Int.reduceLE, Int.reduceLT, Int.reduceToNat, Int.reduceEq, tfAbReads, h6, h8, pI, g0, pB]; try simp only [Ex.fold, Ex.foldcs, ← Va.pv.eq_1]
      refine hX _ _ ?_; clear hX X
      (repeat (first | (refine aSeq (fun X hX => ?_)) | (refine aBlk ?_) | (refine aSkip ?_) | ((first | refine aReg ?_ | refine aDrw (fun m2 => m2 = _) (by kernel_rfl) rfl ?_); simp -implicitDefEqProofs only [forall_eq, ↓slp, slb, ↓reduceIte, reduceCtorEq, Nat.reduceEqDiff, Nat.reduceAdd, Nat.reduceMul, Nat.reduceLT, Nat.reduceLeDiff, Nat.reduceBEq, Nat.reduceBNe, Int.reduceLE, Int.reduceLT, Int.reduceToNat, Int.reduceEq, tfAbReads, h6, h8, pI, hi]; try simp only [Ex.fold, Ex.foldcs, ← Va.pv.eq_1]) | (refine aIf ?_; simp -implicitDefEqProofs only [↓slp, slb, ↓reduceIte, reduceCtorEq, Nat.reduceEqDiff, Nat.reduceAdd, Nat.reduceMul, Nat.reduceLT, Nat.reduceLeDiff, Nat.reduceBEq, Nat.reduceBNe, Int.reduceLE, Int.reduceLT, Int.reduceToNat, Int.reduceEq, h6, h8, pI, hi]) | (refine aExit ?_; simp only [slx, ↓reduceIte, Nat.reduceEqDiff, reduceCtorEq]) | (refine aRet ?_; try simp only [slx, ↓reduceIte, Nat.reduceEqDiff, reduceCtorEq]) | (refine hX _ _ ?_; clear hX X) | (clear hX X; refine hX _ _ ?_; clear hX X) | (clear hX X; clear hX X; refine hX _ _ ?_; clear hX X) | (intro hlen; unfold maxLen at hlen) | (apply And.intro; (focus (first | omega | assumption | (repeat' apply And.intro) <;> first | omega | assumption)))))
      rw [hI2]
      have t1 := ht.use (o := .full) (s := 1) (s' := 1) Mine.full
      have t2 := t1.use (o := .full) (s := 1) (s' := 1) Mine.full
      have t3 := t2.use (o := .full) (s := 1) (s' := 1) Mine.full
      exact ⟨⟨j + 1, _, hlt2, h6, rfl, t3, rfl⟩, by omega⟩
    · have hlt2 : j = es.length := by simp at hb; omega
      have hpos : 0 < es.length := List.length_pos_iff.2 hne
      (repeat (first | (refine aSeq (fun X hX => ?_)) | (refine aBlk ?_) | (refine aSkip ?_) | ((first | refine aReg ?_ | refine aDrw (fun m2 => m2 = _) (by kernel_rfl) rfl ?_); simp -implicitDefEqProofs only [forall_eq, ↓slp, slb, ↓reduceIte, reduceCtorEq, Nat.reduceEqDiff, Nat.reduceAdd, Nat.reduceMul, Nat.reduceLT, Nat.reduceLeDiff, Nat.reduceBEq, Nat.reduceBNe, Int.reduceLE, Int.reduceLT, Int.reduceToNat, Int.reduceEq, tfAbReads, h6, h8, pI]; try simp only [Ex.fold, Ex.foldcs, ← Va.pv.eq_1]) | (refine aIf ?_; simp -implicitDefEqProofs only [↓slp, slb, ↓reduceIte, reduceCtorEq, Nat.reduceEqDiff, Nat.reduceAdd, Nat.reduceMul, Nat.reduceLT, Nat.reduceLeDiff, Nat.reduceBEq, Nat.reduceBNe, Int.reduceLE, Int.reduceLT, Int.reduceToNat, Int.reduceEq, h6, h8, pI]) | (refine aExit ?_; simp only [slx, ↓reduceIte, Nat.reduceEqDiff, reduceCtorEq]) | (refine aRet ?_; try simp only [slx, ↓reduceIte, Nat.reduceEqDiff, reduceCtorEq]) | (refine hX _ _ ?_; clear hX X) | (clear hX X; refine hX _ _ ?_; clear hX X) | (clear hX X; clear hX X; refine hX _ _ ?_; clear hX X) | (intro hlen; unfold maxLen at hlen) | (apply And.intro; (focus (first | omega | assumption | (repeat' apply And.intro) <;> first | omega | assumption)))))
      simp only [aPost, Try.results3, aRes_n, aRes_t, aRes_c, pack_one, pack_two]
      refine leave_toks0 ht rfl ?_
      have hd : decide ((es.length : Int) > 0) = true := by simp; omega
      show PV.v (Value.bool (decide ((es.length : Int) > 0))) = pB true
      rw [hd]
end Go.Proofs.Ytibhhoknipdlpaa

/-
  What comes in reads as values without addresses; a law's contract on the model out of one on these.
-/
set_option linter.unusedVariables false
set_option linter.unusedSimpArgs false
namespace Go.Proofs.Ytibhhoknipdlpaa
open Go Go.RowKit

def M0 : M := ⟨[], []⟩
def G0 (w : World) : Ghost := ⟨w.heap.size, 0, fun _ => 0, 0, fun _ => ⟨0, 0, 0, 0⟩, fun _ _ => False⟩
theorem inv0 (w : World) : Inv (G0 w) M0 w := by
  have hg : ∀ id, M0.get id = none := fun id => by simp [M0, M.get]
  have ha : ∀ t s, ¬ M0.alive t s := fun t s => by simp [M0, M.alive]
  refine ⟨rfl, rfl, Nat.le_refl _, fun id c h => ?_, fun id c h => ?_, fun id id' c c' h => ?_, fun t s h => absurd h (ha t s), fun t t' s s' h => absurd h (ha t s), fun b o h => h.elim⟩
  all_goals (rw [hg] at h; cases h)

theorem law_of {P : Program} {g : FuncId} {args : List PV} {w : World} {vs : List Value} {v : PV} {y : Value} (h : ACalls P g args M0 (fun v' m' => v' = v)) (hl : args.length = vs.length) (hr : ∀ j (h1 : j < args.length) (h2 : j < vs.length), Rep (G0 w) w args[j] vs[j])
    (hv : ∀ G w u, Rep G w v u → u = y) : Calls P g vs.toArray w fun e w' => e = .returned y ∧ Below w.heap.size w w' :=
  (h.run (G0 w) w vs (inv0 w) hl hr).mono fun e w' ⟨u, v', m', G', h1, h2, h3, h4, h5⟩ => by
    subst h2
    exact ⟨by rw [h1, hv _ _ _ h3], h5.below⟩

/-! ### What a value of a type looks like -/
def TyLs (R : TypeId → List PV → Prop) : List TypeId → List PV → Prop
  | [], pcs => pcs = []
  | t :: ts, pcs => ∃ p q, pcs = p ++ q ∧ R t p ∧ TyLs R ts q
def aggT (P : Program) (t : TypeId) : Bool := match P.underlying t with
  | some (.struct _) => true
  | _ => false
def TyCs (P : Program) : Nat → TypeId → List PV → Prop
  | 0, _, _ => False
  | n + 1, t, pcs => match P.underlying t with
    | some .bool => ∃ b, pcs = [.v (.bool b)]
    | some (.int k) => ∃ i, pcs = [.v (.int k i)] ∧ (Lit.int k i).wf = true
    | some .string => ∃ s, pcs = [.v (.string s)] ∧ s.size ≤ maxLen
    | some (.slice e) => ∃ xs, pcs = [.sl .no xs] ∧ xs.length ≤ maxLen ∧ ∀ x ∈ xs, TyCs P n e x.cells ∧ (if aggT P e then x = .ag x.cells else x.cells = [x])
    | some (.struct fs) => TyLs (TyCs P n) (fs.toList.map (·.type)) pcs
    | _ => False
def tileB (P : Program) : Nat → List Field → Option Nat
  | k, [] => some k
  | k, f :: fs => if f.offset == k then tileB P (k + P.cellsOf f.type) fs else none
/-- A list of types that reach no others, without pointers and what else reads memory in its own way. -/
def closedT (P : Program) (L : List TypeId) : Bool :=
  L.all fun t => match P.underlying t with
    | some .bool | some (.int _) | some .string => P.cellsOf t == 1
    | some (.slice e) => P.cellsOf t == 1 && (L.contains e && (P.cellsOf e != 0 && (aggT P e || P.cellsOf e == 1)))
    | some (.struct fs) => (fs.toList.all fun f => L.contains f.type) && tileB P 0 fs.toList == some (P.cellsOf t)
    | _ => false

theorem exists_list {α : Type} {R : Nat → α → Prop} : ∀ (n : Nat), (∀ i, i < n → ∃ x, R i x) → ∃ l : List α, l.length = n ∧ ∀ i (h : i < l.length), R i l[i]
  | 0, _ => ⟨[], rfl, fun i h => by simp at h⟩
  | n + 1, h => by
    obtain ⟨l, h1, h2⟩ := exists_list n (fun i hi => h i (by omega))
    obtain ⟨x, hx⟩ := h n (by omega)
    refine ⟨l ++ [x], by simp [h1], fun i hi => ?_⟩
    by_cases hl : i < l.length
    · rw [List.getElem_append_left hl]; exact h2 i hl
    · have : i = n := by simp at hi; omega
      subst this
      rw [List.getElem_append_right (by omega)]
      simpa using hx

section
variable {H : Type} {enc : TypeId × Value → H} {P : Program} {w : World} {base : Nat} {spare : Nat → Bool} {held : Bool}

theorem settled0 {b o : Nat} {u : Value} (h : w.cell? ⟨b, o, none⟩ = some u) : (G0 w).settled b o := .inl (World.block_lt_of_cell? w _ h)

theorem trod_open (hsp : spare = fun _ => true) (L : List TypeId) (hL : closedT P L = true) : ∀ (fuel : Nat) (t : TypeId) (cs : List Value) (x : DataW H × List MemPlace), t ∈ L → DataW.trod enc P w base spare held fuel t cs = some x →
    ∃ pcs, RL (G0 w) w pcs cs ∧ TyCs P fuel t pcs ∧ PV.pures pcs = true ∧ cs.length = P.cellsOf t ∧ pcs.all PV.one = true := by
  intro fuel
  induction fuel with
  | zero => intro t cs x _ h; simp [DataW.trod] at h
  | succ n ih =>
    intro t cs x ht h
    have hc := List.all_eq_true.1 hL t ht
    have one : ∀ (u : Value) (p : PV), Rep (G0 w) w p u → u.oneCell' = true → RL (G0 w) w [p] [u] := fun u p hp h1 => ⟨rfl, fun j a b => by
      obtain rfl : j = 0 := by simp at a; omega
      exact hp, fun v hv => by simp at hv; subst hv; exact h1⟩
    cases hu : P.underlying t with
    | none => simp [hu] at hc
    | some td =>
      simp only [hu] at hc
      cases td <;> simp only [Bool.false_eq_true] at hc
      case bool =>
        obtain ⟨b, rfl, rfl⟩ := DataW.trod_bool hu h
        exact ⟨[.v (.bool b)], one _ _ (.v rfl) rfl, by simp [TyCs, hu], rfl, by have := hc; simp at this; simp [this], rfl⟩
      case int k =>
        obtain ⟨i, rfl, rfl, hw⟩ := DataW.trod_int hu h
        exact ⟨[.v (.int k i)], one _ _ (.v rfl) rfl, by simp [TyCs, hu, hw], rfl, by have := hc; simp at this; simp [this], rfl⟩
      case string =>
        obtain ⟨s, rfl, rfl, hw⟩ := DataW.trod_string hu h
        exact ⟨[.v (.string s)], one _ _ (.v rfl) rfl, by simp [TyCs, hu, hw], rfl, by have := hc; simp at this; simp [this], rfl⟩
      case slice e =>
        simp only [Bool.and_eq_true, beq_iff_eq, List.contains_eq_mem, decide_eq_true_eq, bne_iff_ne, ne_eq, Bool.or_eq_true] at hc
        obtain ⟨hct, heL, hce, hagg⟩ := hc
        rcases DataW.trod_slice hu h with ⟨rfl, _⟩ | ⟨a, len, cap, elems, rest, n', hn', rfl, _, hb, hlc, hcm, hel, hre, hrs, _⟩
        · exact ⟨[.sl .no []], one _ _ (.snil _ _ (fun t h => by cases h)) rfl, by simp [TyCs, hu], rfl, by simpa using hct.symm, rfl⟩
        · obtain rfl : n' = n := by omega
          by_cases hc0 : cap = 0
          · subst hc0
            have hl0 : len = 0 := by omega
            subst hl0
            exact ⟨[.sl .no []], one _ _ (.snil _ _ (fun t h => by cases h)) rfl, by simp [TyCs, hu], rfl, by simpa using hct.symm, rfl⟩
          · -- the address names a cell
            have hspot : a.spot = none := by
              have key : ∀ (z : Option (List Value)) (y : DataW H × List MemPlace), z = w.cells? base (a.add (0 * P.cellsOf e)) (P.cellsOf e) → z.bind (DataW.trod enc P w base spare held n' e) = some y → a.spot = none := fun z y hz hy => by
                cases z with
                | none => simp at hy
                | some cs' =>
                  obtain ⟨_, hl', hat⟩ := World.cells?_some hz.symm
                  have := hat 0 (by omega)
                  rw [List.getElem?_eq_getElem (by omega)] at this
                  have := World.cell?_spot this
                  simpa [Addr.add] using this
              by_cases hl0 : 0 < len
              · have h0 := hre 0 hl0
                rw [List.getElem?_eq_getElem (by omega)] at h0
                exact key _ _ rfl h0
              · obtain ⟨hr1, hr2⟩ := hrs (by rw [hsp])
                have h0 := hr2 0 (by omega)
                rw [List.getElem?_eq_getElem (by omega)] at h0
                rw [show len + 0 = 0 by omega] at h0
                exact key _ _ rfl h0
            obtain ⟨b, off, sp⟩ := a
            simp only at hspot
            subst hspot
            let sz := P.cellsOf e
            obtain ⟨xs, hxl, hxs⟩ := exists_list (R := fun i (x : PV) => ∃ cs', (∀ j, j < sz → w.cell? ⟨b, off + (i * sz + j), none⟩ = cs'[j]?) ∧ cs'.length = sz ∧ RL (G0 w) w x.cells cs' ∧ TyCs P n' e x.cells ∧ x.ok = true ∧ (if aggT P e then x = .ag x.cells else x.cells = [x])) len (fun i hi => by
              have h0 := hre i hi
              rw [List.getElem?_eq_getElem (by omega)] at h0
              cases hz : w.cells? base (Addr.add ⟨b, off, none⟩ (i * P.cellsOf e)) (P.cellsOf e) with
              | none => simp [hz] at h0
              | some cs' =>
                rw [hz] at h0
                obtain ⟨_, hl', hat⟩ := World.cells?_some hz
                obtain ⟨pcs, q1, q2, q3, q4, q5⟩ := ih e cs' _ heL h0
                have hcells : ∀ j, j < sz → w.cell? ⟨b, off + (i * sz + j), none⟩ = cs'[j]? := fun j hj => by
                  have := hat j hj
                  rwa [Addr.add_lit, Addr.add_lit, Nat.add_assoc] at this
                by_cases hag : aggT P e = true
                · refine ⟨.ag pcs, cs', hcells, hl', q1, q2, ?_, ?_⟩
                  · simp only [PV.ok, PV.pure, PV.cells, q3, q5, Bool.and_self]
                  · rw [if_pos hag]; rfl
                · have hz1 : P.cellsOf e = 1 := hagg.resolve_left hag
                  obtain ⟨p, rfl⟩ := List.length_eq_one_iff.1 (q1.len.trans (hl'.trans hz1))
                  have hpo : p.one = true := by simpa using q5
                  have hpc : p.cells = [p] := by cases p <;> first | rfl | simp [PV.one] at hpo
                  refine ⟨p, cs', hcells, hl', by rw [hpc]; exact q1, by rw [hpc]; exact q2, ?_, ?_⟩
                  · simp only [PV.ok, hpc, q5, Bool.and_true]; simpa [PV.pures] using q3
                  · rw [if_neg hag]; exact hpc)
            have hsz0 : 0 < sz := Nat.pos_of_ne_zero hce
            refine ⟨[.sl .no xs], ?_, ?_, rfl, by simpa using hct.symm, rfl⟩
            · refine one _ _ ?_ rfl
              rw [← hxl]
              refine .sl .no xs b off cap sz (fun k => (w.cell? ⟨b, off + k, none⟩).getD undef) (fun i hi => ?_) (fun k hk => ?_) (fun i hi => ?_) (fun i hi j hj => ?_) (by omega) hcm (fun h => by cases h) (fun t h => by cases h)
              · obtain ⟨cs', g1, g2, g3, g4, g5, g6⟩ := hxs i hi
                rw [g3.len, g2]
              · have hi : k / sz < xs.length := Nat.div_lt_of_lt_mul (by rw [Nat.mul_comm]; exact hk)
                obtain ⟨cs', g1, g2, g3, g4, g5, g6⟩ := hxs (k / sz) hi
                have hj : k % sz < sz := Nat.mod_lt _ hsz0
                have := g1 (k % sz) hj
                rw [show k / sz * sz + k % sz = k by rw [Nat.mul_comm]; exact Nat.div_add_mod k sz, List.getElem?_eq_getElem (by omega)] at this
                refine ⟨by rw [this]; rfl, settled0 this⟩
              · obtain ⟨cs', g1, g2, g3, g4, g5, g6⟩ := hxs i hi
                exact g5
              · obtain ⟨cs', g1, g2, g3, g4, g5, g6⟩ := hxs i hi
                have hj' : j < cs'.length := by rw [← g3.len]; exact hj
                have := g1 j (by omega)
                rw [List.getElem?_eq_getElem hj'] at this
                simp only [this, Option.getD_some]
                exact g3.rep j hj hj'
            · simp only [TyCs, hu]
              refine ⟨xs, rfl, by omega, fun x hx => ?_⟩
              obtain ⟨i, hi, rfl⟩ := List.mem_iff_getElem.1 hx
              obtain ⟨cs', g1, g2, g3, g4, g5, g6⟩ := hxs i hi
              exact ⟨g4, g6⟩
      case struct fs =>
        simp only [Bool.and_eq_true, beq_iff_eq, List.all_eq_true, List.contains_eq_mem, decide_eq_true_eq] at hc
        obtain ⟨hfL, htile⟩ := hc
        obtain ⟨ys, n', hn', _, hcl, hyl, hf⟩ := DataW.trod_struct hu h
        obtain rfl : n' = n := by omega
        have hff : ∀ f ∈ fs.toList, ∃ y, DataW.trod enc P w base spare held n' f.type ((cs.drop f.offset).take (P.cellsOf f.type)) = some y := fun f hm => by
          obtain ⟨i, hi, rfl⟩ := List.mem_iff_getElem.1 hm
          have hi' : i < fs.size := by simpa using hi
          have := hf i fs[i] (Array.getElem?_eq_getElem hi')
          rw [List.getElem?_eq_getElem (by omega)] at this
          exact ⟨_, by simpa using this⟩
        have key : ∀ (l : List Field) (k : Nat), tileB P k l = some (P.cellsOf t) → (∀ f ∈ l, f.type ∈ L) → (∀ f ∈ l, ∃ y, DataW.trod enc P w base spare held n' f.type ((cs.drop f.offset).take (P.cellsOf f.type)) = some y) →
            ∃ pcs, RL (G0 w) w pcs (cs.drop k) ∧ TyLs (TyCs P n') (l.map (·.type)) pcs ∧ PV.pures pcs = true ∧ pcs.all PV.one = true := by
          intro l
          induction l with
          | nil =>
            intro k hk _ _
            simp only [tileB, Option.some.injEq] at hk
            refine ⟨[], ?_, rfl, rfl, rfl⟩
            rw [List.drop_eq_nil_of_le (by omega)]
            exact RL.nil
          | cons f l ihl =>
            intro k hk hm hy
            simp only [tileB] at hk
            by_cases ho : (f.offset == k) = true
            · rw [if_pos ho] at hk
              have ho' : f.offset = k := by simpa using ho
              obtain ⟨y, hy0⟩ := hy f (by simp)
              obtain ⟨p, q1, q2, q3, q4, q5⟩ := ih f.type _ y (hm f (by simp)) hy0
              obtain ⟨q, r1, r2, r3, r4⟩ := ihl (k + P.cellsOf f.type) hk (fun g hg => hm g (by simp [hg])) (fun g hg => hy g (by simp [hg]))
              refine ⟨p ++ q, ?_, ⟨p, q, rfl, q2, r2⟩, ?_, ?_⟩
              · rw [ho'] at q1
                have := q1.append r1
                rw [← List.drop_drop] at this
                rwa [List.take_append_drop] at this
              · rw [pures_iff] at q3 r3 ⊢
                intro x hx
                exact (List.mem_append.1 hx).elim (q3 x) (r3 x)
              · rw [List.all_append, q5, r4]; rfl
            · rw [if_neg ho] at hk; cases hk
        obtain ⟨pcs, k1, k2, k3, k4⟩ := key fs.toList 0 htile hfL hff
        refine ⟨pcs, by simpa using k1, by simpa only [TyCs, hu] using k2, k3, hcl, k4⟩
end
end Go.Proofs.Ytibhhoknipdlpaa

/-
  A row's step: a law that is true on values without addresses is true of the model.
-/
set_option linter.unusedVariables false
set_option linter.unusedSimpArgs false
namespace Go.Proofs.Ytibhhoknipdlpaa
open Go Go.RowKit Go.WideShapes Go.ChangeShapes

def TyA (P : Program) (t : TypeId) (x : PV) : Prop := ∃ n, TyCs P n t x.cells ∧ (if aggT P t then x = .ag x.cells else x.cells = [x])
def AllTy (P : Program) : List TypeId → List PV → Prop
  | [], xs => xs = []
  | t :: ts, xs => ∃ x r, xs = x :: r ∧ TyA P t x ∧ AllTy P ts r

section
variable {H : Type} {enc : TypeId × Value → H} {P : Program} {W : World} {base : Nat}

theorem arg_open (L : List TypeId) (hL : closedT P L = true) {t : TypeId} (ht : t ∈ L) {v : Value} {d : DataW H} {p : List MemPlace} (hv : Value.okWide P W .any base t v) (h : DataW.Trod enc P W 0 (fun _ => true) true t v d p) :
    ∃ x, Rep (G0 W) W x v ∧ TyA P t x := by
  obtain ⟨fuel, hf⟩ := h
  obtain ⟨pcs, q1, q2, q3, q4, q5⟩ := trod_open rfl L hL fuel t _ _ ht hf
  have hc := List.all_eq_true.1 hL t ht
  cases hu : P.underlying t with
  | none => simp [hu] at hc
  | some td =>
    cases td <;> simp only [hu, Bool.false_eq_true] at hc
    case struct fs =>
      obtain ⟨cs, rfl, _⟩ := okWide_struct hu hv
      have ha : aggT P t = true := by simp [aggT, hu]
      refine ⟨.ag pcs, ?_, fuel, q2, by rw [if_pos ha]; rfl⟩
      have := Rep.ag pcs _ q1.len q1.rep q1.one
      simpa [Value.cells] using this
    all_goals
      have ha : aggT P t = false := by simp [aggT, hu]
      have hone : v.cells = #[v] := by
        simp only [Value.okWide, hu, Cell.okWide, Cell.ok] at hv
        cases v <;> first | rfl | (exfalso; exact hv)
      rw [hone] at q1
      obtain ⟨x, rfl⟩ := List.length_eq_one_iff.1 (q1.len.trans rfl)
      have hxo : x.one = true := by simpa using q5
      have hxc : x.cells = [x] := by cases x <;> first | rfl | simp [PV.one] at hxo
      exact ⟨x, by simpa using q1.rep 0 (by simp) (by simp), fuel, by rw [hxc]; exact q2, by rw [if_neg (by simp [ha])]; exact hxc⟩

theorem args_open (L : List TypeId) (hL : closedT P L = true) : ∀ (ts : List TypeId) (vs : List Value) (ds : List (DataW H)) (p : List MemPlace), (∀ t ∈ ts, t ∈ L) → (∀ (j : Nat) t v, ts[j]? = some t → vs[j]? = some v → Value.okWide P W .any base t v) →
    DataW.TrodAll enc P W 0 (fun _ => true) true ts vs ds p → ∃ xs, AllTy P ts xs ∧ xs.length = vs.length ∧ ∀ j (h1 : j < xs.length) (h2 : j < vs.length), Rep (G0 W) W xs[j] vs[j]
  | [], [], [], p, _, _, _ => ⟨[], rfl, rfl, fun j h => by simp at h⟩
  | t :: ts, v :: vs, d :: ds, p, hts, hval, h => by
    obtain ⟨p1, q1, h1, h2, rfl⟩ := h
    obtain ⟨x, hx, hty⟩ := arg_open L hL (hts t (by simp)) (hval 0 t v rfl rfl) h1
    obtain ⟨xs, k1, k2, k3⟩ := args_open L hL ts vs ds q1 (fun u hu => hts u (by simp [hu])) (fun j u w hu hw => hval (j + 1) u w (by simpa using hu) (by simpa using hw)) h2
    refine ⟨x :: xs, ⟨x, xs, rfl, hty, k1⟩, by simp [k2], fun j a b => ?_⟩
    cases j with
    | zero => exact hx
    | succ j => simpa using k3 j (by simpa using a) (by simpa using b)
  | [], _ :: _, _, _, _, _, h => h.elim
  | [], [], _ :: _, _, _, _, h => h.elim
  | _ :: _, [], _, _, _, _, h => h.elim
  | _ :: _, _ :: _, [], _, _, _, h => h.elim

theorem args_below (hl : laidOutB P = true) {W' : World} (hb : Below W.heap.size W W') : ∀ (ts : List TypeId) (vs : List Value) (ds : List (DataW H)) (p : List MemPlace), (∀ t ∈ ts, P.readableRec t = true ∧ t < P.types.size) → (∀ x ∈ p, x.block < W.heap.size) →
    DataW.TrodAll enc P W 0 (fun _ => true) true ts vs ds p → DataW.TrodAll enc P W' 0 (fun b => decide (b < W.heap.size)) true ts vs ds p
  | [], [], [], _, _, _, h => h
  | t :: ts, v :: vs, d :: ds, p, hts, hlt, h => by
    obtain ⟨p1, q1, h1, h2, rfl⟩ := h
    exact ⟨p1, q1, Below.trod hl (hts t (by simp)).1 (hts t (by simp)).2 h1 hb (fun x hx => hlt x (by simp [hx])), args_below hl hb ts vs ds q1 (fun u hu => hts u (by simp [hu])) (fun x hx => hlt x (by simp [hx])) h2, rfl⟩
  | [], _ :: _, _, _, _, _, h => h.elim
  | [], [], _ :: _, _, _, _, h => h.elim
  | _ :: _, [], _, _, _, _, h => h.elim
  | _ :: _, _ :: _, [], _, _, _, h => h.elim

theorem lifted_gen {C : Checked} {os : Os} {f : FuncId} {fn : Func} {s : ChangeSpec} {conds : List PathCond} {tb : TypeId} (own : ownKnob C.prog.godebug = none) (started : os.Started) (noInit : C.prog.inits.idxOf? f = none) (hfn : C.prog.funcs[f]? = some fn)
    (witness : ∃ (w : World) (tape : Tape) (i : Input), w.os = os ∧ (w.forCall tape i).Shaped C.prog ∧ i.vars = [] ∧ Input.okWide C.prog (w.forCall tape i) .any w.heap.size f i ∧
      s.pre6 enc C.prog fn conds false (w.forCall tape i).memory i.args ∧ ({} : Assume).holds C.prog (lone (Frame.enter C.prog f i.args .normal) [] (w.forCall tape i)))
    (hvars : s.vars = []) (hspec : ∀ (ds : List (DataW H)), ds.length = fn.params.size → s.fn H ds = { results := [.lit (.bool true)], args := ds }) (hres : fn.resultTypes = #[tb]) (htb : C.prog.underlying tb = some .bool)
    (L : List TypeId) (hL : closedT C.prog L = true) (hts : ∀ t ∈ fn.params.toList, t ∈ L) (hl : laidOutB C.prog = true) (hrd : ∀ t ∈ fn.params.toList, C.prog.readableRec t = true ∧ t < C.prog.types.size)
    (law : ∀ xs, AllTy C.prog fn.params.toList xs → ACalls C.prog f xs M0 (fun v m' => v = .v (.bool true))) :
    ReturnsInHanded {} C os f .any (s.pre6 enc C.prog fn conds false) (s.post enc C.prog fn false true false false) := by
  refine returnsInHanded_of_change (C := C) own started noInit hfn witness ?_
  intro W base args ds gs before hval hW hcnd _
  have hW' := hW
  obtain ⟨p, q, hA, hV, rfl, hfz, hnd⟩ := hW
  rw [hvars] at hV
  obtain ⟨rfl, rfl⟩ := trodVars_none hV
  obtain ⟨xs, k1, k2, k3⟩ := args_open L hL fn.params.toList args.toList ds p hts (fun j t v h1 h2 => hval j t v (by simpa using h1) (by simpa using h2)) hA
  have hlaw := law_of (w := W) (vs := args.toList) (y := .bool true) (law xs k1) k2 k3 (fun G w u h => h.atomEq)
  rw [Array.toArray_toList] at hlaw
  refine hlaw.mono fun e W' ⟨he, hb⟩ => ?_
  subst he
  have hlen : ds.length = fn.params.size := by
    have : ∀ (ts : List TypeId) (vs : List Value) (ds : List (DataW H)) (p : List MemPlace), DataW.TrodAll enc C.prog W 0 (fun _ => true) true ts vs ds p → ds.length = ts.length := by
      intro ts
      induction ts with
      | nil => intro vs ds p h; cases vs <;> cases ds <;> first | rfl | exact h.elim
      | cons t ts ih =>
        intro vs ds p h
        cases vs with
        | nil => exact h.elim
        | cons v vs =>
          cases ds with
          | nil => exact h.elim
          | cons d ds => obtain ⟨_, _, _, h2, _⟩ := h; simp [ih vs ds _ h2]
    simpa using this _ _ _ _ hA
  have hsp := hspec (ds ++ []) (by simpa using hlen)
  have hlow : ∀ x ∈ p, x.block < W.heap.size := fun x hx => hW'.lt x (by simpa using hx)
  refine ⟨_, rfl, ds, [], p ++ [], [], p, [], hW', ?_, ?_, ?_, hb.frame _, fun h => by cases h⟩
  · rw [hsp, hres]
    exact trodAll_mk1 (shut_bool htb true)
  · rw [hsp]
    simp only [List.append_nil]
    exact args_below hl hb _ _ _ _ hrd hlow hA
  · rw [hvars, hsp]
    rfl
end
end Go.Proofs.Ytibhhoknipdlpaa

/-
  What a value of the program's own types looks like.
-/
set_option linter.unusedVariables false
set_option linter.unusedSimpArgs false
namespace Go.Proofs.Ytibhhoknipdlpaa
open Go

section
variable {P : Program}
theorem int_of {t : TypeId} {k : IntKind} (h : P.underlying t = some (.int k)) : ∀ {n : Nat} {p : List PV}, TyCs P n t p → ∃ i, p = [.v (.int k i)]
  | 0, _, hh => hh.elim
  | n + 1, p, hh => by
    simp only [TyCs, h] at hh
    obtain ⟨i, h1, _⟩ := hh
    exact ⟨i, h1⟩
theorem bool_of {t : TypeId} (h : P.underlying t = some .bool) : ∀ {n : Nat} {p : List PV}, TyCs P n t p → ∃ i, p = [.v (.bool i)]
  | 0, _, hh => hh.elim
  | n + 1, p, hh => by simpa only [TyCs, h] using hh
theorem str_of {t : TypeId} (h : P.underlying t = some .string) : ∀ {n : Nat} {p : List PV}, TyCs P n t p → ∃ i, p = [.v (.string i)]
  | 0, _, hh => hh.elim
  | n + 1, p, hh => by
    simp only [TyCs, h] at hh
    obtain ⟨i, h1, _⟩ := hh
    exact ⟨i, h1⟩
theorem list_of {α : Type} (g : α → PV) : ∀ {xs : List PV}, (∀ x ∈ xs, ∃ e, x = g e) → ∃ es : List α, xs = es.map g
  | [], _ => ⟨[], rfl⟩
  | x :: xs, h => by
    obtain ⟨e, he⟩ := h x (by simp)
    obtain ⟨es, hes⟩ := list_of g (xs := xs) (fun y hy => h y (by simp [hy]))
    exact ⟨e :: es, by rw [he, hes]; rfl⟩
theorem slice_of {t e : TypeId} (h : P.underlying t = some (.slice e)) {α : Type} (g : α → PV) : ∀ {n : Nat} {p : List PV}, (∀ m, m < n → ∀ x : PV, TyCs P m e x.cells → (if aggT P e then x = .ag x.cells else x.cells = [x]) → ∃ a, x = g a) → TyCs P n t p → ∃ l : List α, p = [.sl .no (l.map g)]
  | 0, _, _, hh => hh.elim
  | n + 1, p, hg, hh => by
    simp only [TyCs, h] at hh
    obtain ⟨xs, h1, _, h3⟩ := hh
    obtain ⟨es, rfl⟩ := list_of g (fun x hx => hg n (by omega) x (h3 x hx).1 (h3 x hx).2)
    exact ⟨es, h1⟩
theorem strs_of {t e : TypeId} (h : P.underlying t = some (.slice e)) (he : P.underlying e = some .string) {n : Nat} {p : List PV} (hh : TyCs P n t p) : ∃ l : List Str, p = [.sl .no (l.map pS)] := by
  refine slice_of h pS (fun m _ x hx hi => ?_) hh
  have ha : aggT P e = false := by simp [aggT, he]
  rw [if_neg (by simp [ha])] at hi
  obtain ⟨s, hs⟩ := str_of he hx
  rw [hi] at hs
  exact ⟨s, by simpa using hs⟩
theorem bytes_of {t e : TypeId} (h : P.underlying t = some (.slice e)) (he : P.underlying e = some (.int .u8)) {n : Nat} {p : List PV} (hh : TyCs P n t p) : ∃ l : List Int, (∀ x ∈ l, 0 ≤ x ∧ x ≤ 255) ∧ p = [.sl .no (l.map fun i => .v (.int .u8 i))] := by
  have ha : aggT P e = false := by simp [aggT, he]
  cases n with
  | zero => exact hh.elim
  | succ n =>
    simp only [TyCs, h] at hh
    obtain ⟨xs, rfl, _, h3⟩ := hh
    have key : ∀ x ∈ xs, ∃ i : { i : Int // 0 ≤ i ∧ i ≤ 255 }, x = .v (.int .u8 i.1) := fun x hx => by
      obtain ⟨h1, h2⟩ := h3 x hx
      rw [if_neg (by simp [ha])] at h2
      cases n with
      | zero => exact h1.elim
      | succ n =>
        simp only [TyCs, he] at h1
        obtain ⟨i, e1, e2⟩ := h1
        rw [h2] at e1
        simp [Lit.wf, IntKind.min, IntKind.max, IntKind.signed, IntKind.bits] at e2
        exact ⟨⟨i, by omega⟩, by simpa using e1⟩
    obtain ⟨l, rfl⟩ := list_of (fun i : { i : Int // 0 ≤ i ∧ i ≤ 255 } => PV.v (.int .u8 i.1)) key
    refine ⟨l.map (·.1), fun x hx => ?_, by simp [List.map_map, Function.comp_def]⟩
    obtain ⟨i, _, rfl⟩ := List.mem_map.1 hx
    exact i.2
theorem struct_of {t : TypeId} {fs : Array Field} {ts : List TypeId} (hu : P.underlying t = some (.struct fs)) (hts : fs.toList.map (·.type) = ts) : ∀ {n : Nat} {p : List PV}, TyCs P n t p → ∃ m, m < n ∧ TyLs (TyCs P m) ts p
  | 0, _, h => h.elim
  | n + 1, p, h => by
    simp only [TyCs, hu] at h
    exact ⟨n, by omega, by rw [← hts]; exact h⟩
theorem agg_of {t : TypeId} {fs : Array Field} (hu : P.underlying t = some (.struct fs)) {x : PV} (h : if aggT P t then x = .ag x.cells else x.cells = [x]) : x = .ag x.cells := by
  have ha : aggT P t = true := by simp [aggT, hu]
  rwa [if_pos ha] at h
end

set_option maxRecDepth 20000 in
theorem pos_of {n : Nat} {p : List PV} (h : TyCs Try.prog n 37 p) : ∃ a b, p = [.v (.int .i64 a), .v (.int .i64 b)] := by
  obtain ⟨m, _, h⟩ := struct_of Try.underlying37 (ts := [3, 3]) rfl h
  obtain ⟨p1, _, rfl, h1, p2, _, rfl, h2, rfl⟩ := h
  obtain ⟨a, rfl⟩ := int_of Try.underlying3 h1
  obtain ⟨b, rfl⟩ := int_of Try.underlying3 h2
  exact ⟨a, b, rfl⟩
set_option maxRecDepth 20000 in
theorem ex_of : ∀ (n : Nat) {p : List PV}, TyCs Try.prog n 44 p → ∃ e : Ex, p = e.cs := by
  intro n
  induction n using Nat.strongRecOn with
  | ind n ih =>
  intro p h
  obtain ⟨m, hm, h⟩ := struct_of Try.underlying44 (ts := [5, 5, 21, 9, 41, 30, 37]) rfl h
  obtain ⟨p1, _, rfl, h1, p2, _, rfl, h2, p3, _, rfl, h3, p4, _, rfl, h4, p5, _, rfl, h5, p6, _, rfl, h6, p7, _, rfl, h7, rfl⟩ := h
  obtain ⟨k, rfl⟩ := int_of Try.underlying5 h1
  obtain ⟨o, rfl⟩ := int_of Try.underlying5 h2
  obtain ⟨i, rfl⟩ := int_of Try.underlying21 h3
  obtain ⟨nm, rfl⟩ := str_of Try.underlying9 h4
  obtain ⟨ns, rfl⟩ := strs_of Try.underlying41 Try.underlying9 h5
  obtain ⟨ks, rfl⟩ := slice_of Try.underlying30 Ex.pv (fun m' hm' x hx hi => by
    obtain ⟨e, he⟩ := ih m' (by omega) hx
    refine ⟨e, ?_⟩
    rw [agg_of (P := Try.prog) (t := 44) Try.underlying44 hi, he, e.pv_eq]) h6
  obtain ⟨li, co, rfl⟩ := pos_of h7
  exact ⟨.mk k o i nm ns ks li co, rfl⟩
set_option maxRecDepth 20000 in
theorem on_of {n : Nat} {x : PV} (h : TyCs Try.prog n 63 x.cells) (hi : if aggT Try.prog 63 then x = .ag x.cells else x.cells = [x]) : ∃ a : On, x = a.pv := by
  have hx := agg_of (P := Try.prog) (t := 63) Try.underlying63 hi
  obtain ⟨m, _, h⟩ := struct_of Try.underlying63 (ts := [9, 9]) rfl h
  obtain ⟨p1, _, e1, h1, p2, _, rfl, h2, rfl⟩ := h
  obtain ⟨a, rfl⟩ := str_of Try.underlying9 h1
  obtain ⟨b, rfl⟩ := str_of Try.underlying9 h2
  exact ⟨⟨a, b⟩, by rw [hx, e1]; rfl⟩
set_option maxRecDepth 20000 in
theorem va_of {n : Nat} {p : List PV} (h : TyCs Try.prog n 52 p) : ∃ v : Va, p = v.cs := by
  obtain ⟨m, hm, h⟩ := struct_of Try.underlying52 (ts := [9, 49, 50, 4, 44, 37]) rfl h
  obtain ⟨p1, _, rfl, h1, p2, _, rfl, h2, p3, _, rfl, h3, p4, _, rfl, h4, p5, _, rfl, h5, p6, _, rfl, h6, rfl⟩ := h
  obtain ⟨nm, rfl⟩ := str_of Try.underlying9 h1
  obtain ⟨m2, _, h2⟩ := struct_of Try.underlying49 (ts := [5, 9]) rfl h2
  obtain ⟨q1, _, rfl, g1, q2, _, rfl, g2, rfl⟩ := h2
  obtain ⟨tk, rfl⟩ := int_of Try.underlying5 g1
  obtain ⟨tn, rfl⟩ := str_of Try.underlying9 g2
  obtain ⟨cl, rfl⟩ := slice_of Try.underlying50 On.pv (fun m' _ x hx hi => on_of hx hi) h3
  obtain ⟨la, rfl⟩ := bool_of Try.underlying4 h4
  obtain ⟨e, rfl⟩ := ex_of _ h5
  obtain ⟨li, co, rfl⟩ := pos_of h6
  exact ⟨⟨nm, ⟨tk, tn⟩, cl, la, e, li, co⟩, rfl⟩
end Go.Proofs.Ytibhhoknipdlpaa
