/-
  The law's own blocks: variables, each of which is another one.
-/
import Derived.Test.YtfemdelaciccmaaInL
import Derived.Test.YtfemdelaciccmaaAbDrw
set_option linter.unusedVariables false
set_option linter.unusedSimpArgs false
namespace Go.Proofs.Ytfemdelaciccmaa
open Nat renaming reduceEqDiff → jA, reduceAdd → jB, reduceMul → jC, reduceLT → jD, reduceLeDiff → jE, reduceBEq → jF, reduceBNe → jG
open Int renaming reduceLE → jH, reduceLT → jI, reduceToNat → jJ, reduceEq → jK
open Go
-- EXX: Qu.settle_pv, Qu.pure_pv, Qu.cells_pv, Qu.cs
set_option maxRecDepth 20000
-- TNAMES: int; uint8; int32; string; bool; []string; []api.Expr; api.Expr; api.Pos; api.Type; api.On; []api.On; api.Var; []api.Var; api.Equation; []api.Equation; api.Block; []uint8
set_option linter.defProp false
def tfInC := And.intro @tfA (And.intro @Ex.settle_pv (And.intro @Ex.pure_pv (And.intro @Ex.cells_pv (And.intro @Ex.cs.eq_1 (And.intro @On.pv.eq_1 (And.intro @Ty.pv.eq_1 (And.intro @Va.settle_pv (And.intro @Va.pure_pv (And.intro @Va.cells_pv (And.intro @Va.cs.eq_1 (And.intro @Qu.settle_pv (And.intro @Qu.pure_pv (And.intro @Qu.cells_pv @Qu.cs.eq_1)))))))))))))

abbrev pU (n : Int) : PV := .v (.int .u8 n)
abbrev nE : Str := ⟨#[]⟩
def vNm (i : Nat) : Str := (⟨#[118]⟩ : Str) ++ strOf [IntKind.u8.wrap (97 + (i : Int))]
def zEx : Ex := .mk 0 0 0 nE [] [] 0 0
def vVa (i : Nat) : Va := ⟨vNm i, ⟨2, nE⟩, [], false, zEx, 0, 0⟩
def vE (s : Str) : Ex := .mk 4 0 0 s [] [] 0 0
def chV (n : Nat) : List Va := (List.range n).map vVa
theorem chV_len (n : Nat) : (chV n).length = n := by simp [chV]
theorem chV_at {n k : Nat} (h : k < (chV n).length) : (chV n)[k] = vVa k := by simp [chV]
theorem chV_succ (n : Nat) : chV (n + 1) = chV n ++ [vVa n] := by simp [chV, List.range_succ]
theorem va_len (l : List Va) : ∀ x ∈ l.map Va.pv, x.cells.length = 15 := fun x hx => by
  obtain ⟨s, _, rfl⟩ := List.mem_map.1 hx; rfl
theorem qu_len (l : List Qu) : ∀ x ∈ l.map Qu.pv, x.cells.length = 16 := fun x hx => by
  obtain ⟨s, _, rfl⟩ := List.mem_map.1 hx; rw [Qu.cells_pv]; rfl
/-- An expression's cells, in a box of its own. -/
def exC (k op n : Int) (s : Str) (ks : List PV) : List PV := [.v (.int .u8 k), .v (.int .u8 op), .v (.int .i32 n), .v (.string s), .sl .full [], .sl .full ks, .v (.int .i64 0), .v (.int .i64 0)]
def zBk : List PV := [.sl .full [], .sl .full []]
def dfQ (s : Str) (e : Ex) : Qu := .mk 1 [s] nE [] false e [] 0 0
theorem dfQ_def {s : Str} {e : Ex} (h : e.fed) : (dfQ s e).def1 := fun _ => ⟨by simp [dfQ, Qu.lhs], h⟩
theorem vNm_size (i : Nat) : (vNm i).size = 2 := by unfold vNm; rfl
/-- The states that hold these two boxes, and others. -/
def isR (mm : M) (a b : List PV) (m2 : M) : Prop := ∃ r, m2 = mm.ext (some a :: some b :: r)
theorem isR_all {mm : M} {a b : List PV} {Q : M → Prop} : (∀ m2, isR mm a b m2 → Q m2) = ∀ r, Q (mm.ext (some a :: some b :: r)) :=
  propext ⟨fun h r => h _ ⟨r, rfl⟩, fun h m2 ⟨r, e⟩ => e ▸ h r⟩
theorem isR_of {mm : M} {a b : List PV} {r : List (Option (List PV))} : isR mm a b (mm.ext (some a :: some b :: r)) := ⟨r, rfl⟩
/-- The states that differ in tokens. -/
def isT2 (mm : M) (bs : List (Option (List PV))) (m2 : M) : Prop := ∃ ts, m2 = (⟨mm.boxes, ts⟩ : M).ext bs
theorem isT2_all {mm : M} {bs : List (Option (List PV))} {Q : M → Prop} : (∀ m2, isT2 mm bs m2 → Q m2) = ∀ ts, Q ((⟨mm.boxes, ts⟩ : M).ext bs) :=
  propext ⟨fun h r => h _ ⟨r, rfl⟩, fun h m2 ⟨r, e⟩ => e ▸ h r⟩
theorem isT2_of {mm m3 : M} {bs : List (Option (List PV))} (h : m3.boxes = mm.boxes) : isT2 mm bs (m3.ext bs) := ⟨m3.toks, by rw [← h]⟩
theorem quo_u8 {x : Int} (h0 : 0 ≤ x) (h1 : x ≤ 255) : IntKind.i64.wrap (IntKind.u8.wrap (x.tdiv 4)) = x / 4 := by
  rw [IntWalk.u8_quo x 4 ⟨h0, h1, by omega⟩, wrap64 (by omega)]
theorem set_concat_len {α : Type} (l : List α) (a b : α) : (l ++ [a]).set l.length b = l ++ [b] := by
  rw [List.set_append_right _ _ (Nat.le_refl _)]; simp
set_option maxHeartbeats 8000000 in
theorem chain_any (l : List Int) (hel : ∀ x ∈ l, 0 ≤ x ∧ x ≤ 255) (m : M) :
    ACalls Try.prog 8 [.sl .no (l.map pU)] m (fun v m' => ∃ (n : Nat) (Q : List Qu), n ≤ 12 ∧ (∀ q ∈ Q, q.def1) ∧ v = .ag [.sl .no ((chV n).map Va.pv), .sl .no (Q.map Qu.pv)] ∧ m' = m) := by
  refine ACalls.enter (mu := [2, 3, 7]) ok_mix Try.func8 rfl (by kernel_rfl) (by kernel_rfl) (by simp only [List.length_cons, List.length_nil, Try.ntmps8]; omega) ?_
  (repeat (first | refine aSeq fun X hX => ?_ | refine aBlk ?_ | refine aSkip ?_ | (first | refine aExit ?_ | refine aRet ?_); try simp only [slx, ↓reduceIte, Nat.reduceEqDiff, reduceCtorEq] | (first | refine aReg ?_ | refine aIf ?_); simp -implicitDefEqProofs only [forall_eq, ↓slp, slb, ↓reduceIte, reduceCtorEq, jA, jB, jC, jD, jE, jF, jG, jH, jI, jJ, jK, tfInC]; try simp only [Ex.fold, Ex.foldcs, ← Va.pv.eq_1] | refine hX _ _ ?_; clear hX X | clear hX X; refine hX _ _ ?_; clear hX X | clear hX X; clear hX X; refine hX _ _ ?_; clear hX X | intro hlen; unfold maxLen at hlen | apply And.intro; focus (first | omega | assumption | (repeat' apply And.intro) <;> first | omega | assumption)))
  have join : ∀ (f : F) (n : Nat), n ≤ 12 → n ≤ l.length → f 0 = .sl .no (l.map pU) → f 2 = .bp m.nb 0 → f 3 = .bp (m.nb + 1) 0 → f 4 = pI n → X f (m.ext [some zBk, some zBk]) := by
    intro f n hn hnl f0 f2 f3 f4
    refine hX _ _ ?_
    clear hX X
    (repeat (first | refine aSeq fun X hX => ?_ | refine aBlk ?_ | refine aSkip ?_ | (first | refine aExit ?_ | refine aRet ?_); try simp only [slx, ↓reduceIte, Nat.reduceEqDiff, reduceCtorEq] | (first | refine aReg ?_ | refine aIf ?_); simp -implicitDefEqProofs only [forall_eq, ↓slp, slb, ↓reduceIte, reduceCtorEq, jA, jB, jC, jD, jE, jF, jG, jH, jI, jJ, jK, tfInC]; try simp only [Ex.fold, Ex.foldcs, ← Va.pv.eq_1] | refine hX _ _ ?_; clear hX X | clear hX X; refine hX _ _ ?_; clear hX X | clear hX X; clear hX X; refine hX _ _ ?_; clear hX X | intro hlen; unfold maxLen at hlen | apply And.intro; focus (first | omega | assumption | (repeat' apply And.intro) <;> first | omega | assumption)))
    obtain ⟨I, hI⟩ : ∃ I : F → M → Prop, ∀ f m', I f m' = (∃ (k : Nat) (o : Own) (mm : M), k ≤ n ∧ f 0 = .sl .no (l.map pU) ∧ f 2 = .bp m.nb 0 ∧ f 3 = .bp (m.nb + 1) 0 ∧ f 4 = pI n ∧ f 5 = pI k ∧ Toks m mm ∧ Mine m mm o 15 ∧ m' = mm.ext [some zBk, some [.sl o ((chV k).map Va.pv), .sl .full []]]) := ⟨_, fun _ _ => rfl⟩
    refine aLoop I (fun f m => n - numOf (f 5)) ?_ ?_
    · rw [hI]; exact ⟨0, .full, m, by omega, f0, f2, f3, f4, rfl, .refl _, .full, rfl⟩
    clear f0 f2 f3 f4
    intro f m' hrel
    rw [hI] at hrel
    obtain ⟨k, o, mm, hk, f0, f2, f3, f4, f5, htk, hmi, rfl⟩ := hrel
    have hnb := htk.nb
    cases c1 : decide ((k : Int) < (n : Int)) with
    | true =>
      have hlt : k < n := by simpa using c1
      have hi : IntKind.i64.wrap ((k : Int) + 1) = ((k + 1 : Nat) : Int) := by rw [wrap64 (by omega)]; omega
      have hi2 : IntKind.i64.wrap (97 + (k : Int)) = 97 + (k : Int) := by rw [wrap64 (by omega)]
      have hme : numOf (f 5) = k := by rw [f5]; exact Int.toNat_natCast k
      have hsz : (⟨#[118]⟩ : ByteArray).size + (strOf [IntKind.u8.wrap (97 + (k : Int))]).size ≤ 100 := by
        have : (strOf [IntKind.u8.wrap (97 + (k : Int))]).size = 1 := rfl
        rw [this]; decide
      have hll := chV_len k
      have hmx : (chV k).length + 1 ≤ maxLen := by unfold maxLen; omega
      have hfr := hmi.free
      have hvl := va_len (chV k)
      (repeat (first | refine aSeq fun X hX => ?_ | refine aBlk ?_ | refine aSkip ?_ | (first | refine aExit ?_ | refine aRet ?_); try simp only [slx, ↓reduceIte, Nat.reduceEqDiff, reduceCtorEq] | (first | refine aReg ?_ | refine aIf ?_); simp -implicitDefEqProofs only [forall_eq, ↓slp, slb, ↓reduceIte, reduceCtorEq, jA, jB, jC, jD, jE, jF, jG, jH, jI, jJ, jK, tfInC, f0, f2, f3, f4, f5, pI, c1, hi, hi2, hnb, zBk]; try simp only [Ex.fold, Ex.foldcs, ← Va.pv.eq_1] | refine hX _ _ ?_; clear hX X | clear hX X; refine hX _ _ ?_; clear hX X | clear hX X; clear hX X; refine hX _ _ ?_; clear hX X | intro hlen; unfold maxLen at hlen | apply And.intro; focus (first | omega | assumption | (repeat' apply And.intro) <;> first | omega | assumption)))
      rw [hI]
      refine ⟨⟨k + 1, .tok mm.nt, (o.use mm).fresh 15, hlt, f0, f2, f3, f4, rfl, htk.use hmi, Mine.new htk o 15, ?_⟩, by omega⟩
      rw [chV_succ, List.map_append]
      rfl
    | false =>
      have hk' : k = n := by simp at c1; omega
      subst hk'
      (repeat (first | refine aSeq fun X hX => ?_ | refine aBlk ?_ | refine aSkip ?_ | (first | refine aExit ?_ | refine aRet ?_); try simp only [slx, ↓reduceIte, Nat.reduceEqDiff, reduceCtorEq] | (first | refine aReg ?_ | refine aIf ?_); simp -implicitDefEqProofs only [forall_eq, ↓slp, slb, ↓reduceIte, reduceCtorEq, jA, jB, jC, jD, jE, jF, jG, jH, jI, jJ, jK, tfInC, f0, f2, f3, f4, f5, pI, c1]; try simp only [Ex.fold, Ex.foldcs, ← Va.pv.eq_1] | refine hX _ _ ?_; clear hX X | clear hX X; refine hX _ _ ?_; clear hX X | clear hX X; clear hX X; refine hX _ _ ?_; clear hX X | intro hlen; unfold maxLen at hlen | apply And.intro; focus (first | omega | assumption | (repeat' apply And.intro) <;> first | omega | assumption)))
      obtain ⟨J, hJ⟩ : ∃ J : F → M → Prop, ∀ f m', J f m' = (∃ (j : Nat) (o o2 : Own) (mm : M) (Q : List Qu) (r : List (Option (List PV))), j ≤ k ∧ Q.length = j ∧ (∀ q ∈ Q, q.def1) ∧ f 0 = .sl .no (l.map pU) ∧ f 2 = .bp m.nb 0 ∧ f 3 = .bp (m.nb + 1) 0 ∧ f 4 = pI k ∧ f 6 = pI j ∧ Toks m mm ∧ Mine m mm o2 16 ∧ m' = mm.ext (some zBk :: some [.sl o ((chV k).map Va.pv), .sl o2 (Q.map Qu.pv)] :: r)) := ⟨_, fun _ _ => rfl⟩
      refine aLoop J (fun f m => k - numOf (f 6)) ?_ ?_
      · rw [hJ]; exact ⟨0, o, .full, mm, [], [], by omega, rfl, fun q hq => by simp at hq, f0, f2, f3, f4, rfl, htk, .full, rfl⟩
      clear hmi htk hnb f0 f2 f3 f4 f5 hI I
      intro f m' hrel
      rw [hJ] at hrel
      obtain ⟨j, o, o2, mm, Q, r, hj, hQl, hQd, f0, f2, f3, f4, f6, htk, hmi, rfl⟩ := hrel
      have hnb := htk.nb
      cases c2 : decide ((j : Int) < (k : Int)) with
      | false =>
        (repeat (first | refine aSeq fun X hX => ?_ | refine aBlk ?_ | refine aSkip ?_ | (first | refine aExit ?_ | refine aRet ?_); try simp only [slx, ↓reduceIte, Nat.reduceEqDiff, reduceCtorEq] | (first | refine aReg ?_ | refine aIf ?_); simp -implicitDefEqProofs only [forall_eq, ↓slp, slb, ↓reduceIte, reduceCtorEq, jA, jB, jC, jD, jE, jF, jG, jH, jI, jJ, jK, tfInC, f0, f2, f3, f4, f6, pI, c2, hnb, zBk, List.set_cons_succ, List.cons_append, List.getElem?_cons_succ, List.set_cons_zero]; try simp only [Ex.fold, Ex.foldcs, ← Va.pv.eq_1] | refine hX _ _ ?_; clear hX X | clear hX X; refine hX _ _ ?_; clear hX X | clear hX X; clear hX X; refine hX _ _ ?_; clear hX X | intro hlen; unfold maxLen at hlen | apply And.intro; focus (first | omega | assumption | (repeat' apply And.intro) <;> first | omega | assumption)))
        simp only [aPost, Try.results8, aRes_n, aRes_t, aRes_c, pack_one, pack_two]
        simp -implicitDefEqProofs only [↓slp, slb, ↓reduceIte, reduceCtorEq, jA, jB, jC, jD, jE, jF, jG, jH, jI, jJ, jK, tfInC, f0, f2, f3, f4, f6, pI, c2, hnb, zBk, List.set_cons_succ, List.cons_append, List.getElem?_cons_succ, List.set_cons_zero]; try simp only [Ex.fold, Ex.foldcs, ← Va.pv.eq_1]
        exact leave_toks htk rfl ⟨k, Q, hn, hQd, rfl, rfl⟩
      | true =>
        have hlt : j < k := by simpa using c2
        have hi : IntKind.i64.wrap ((j : Int) + 1) = ((j + 1 : Nat) : Int) := by rw [wrap64 (by omega)]; omega
        have hme : numOf (f 6) = j := by rw [f6]; exact Int.toNat_natCast j
        have hjl : j < l.length := by omega
        have g0 := getD_map pU l j hjl
        obtain ⟨hx0, hx1⟩ := hel l[j] (List.getElem_mem hjl)
        obtain ⟨x, hx⟩ : ∃ x, l[j] = x := ⟨_, rfl⟩
        rw [hx] at g0 hx0 hx1
        have hq4 := quo_u8 hx0 hx1
        obtain ⟨a, ha, hak⟩ : ∃ a : Nat, (x / 4).tmod (k : Int) = (a : Int) ∧ a < k := by
          refine ⟨((x / 4).tmod (k : Int)).toNat, ?_, ?_⟩
          · have := Int.tmod_nonneg (a := x / 4) (k : Int) (by omega)
            omega
          · have := Int.tmod_lt_of_pos (x / 4) (show (0 : Int) < (k : Int) by omega)
            have := Int.tmod_nonneg (a := x / 4) (k : Int) (by omega)
            omega
        have ga := getD_map Va.pv (chV k) a (by rw [chV_len]; exact hak)
        rw [chV_at] at ga
        have gj := getD_map Va.pv (chV k) j (by rw [chV_len]; exact hlt)
        rw [chV_at] at gj
        have hcl := chV_len k
        have hk0 : ((k : Int)) ≠ 0 := by omega
        (repeat (first | refine aSeq fun X hX => ?_ | refine aBlk ?_ | refine aSkip ?_ | (first | refine aExit ?_ | refine aRet ?_); try simp only [slx, ↓reduceIte, Nat.reduceEqDiff, reduceCtorEq] | (first | refine aReg ?_ | refine aIf ?_); simp -implicitDefEqProofs only [forall_eq, ↓slp, slb, ↓reduceIte, reduceCtorEq, jA, jB, jC, jD, jE, jF, jG, jH, jI, jJ, jK, tfInC, f0, f2, f3, f4, f6, pI, c2, hnb, zBk, g0, List.set_cons_succ, List.cons_append, List.getElem?_cons_succ, List.set_cons_zero]; try simp only [Ex.fold, Ex.foldcs, ← Va.pv.eq_1] | refine hX _ _ ?_; clear hX X | clear hX X; refine hX _ _ ?_; clear hX X | clear hX X; clear hX X; refine hX _ _ ?_; clear hX X | intro hlen; unfold maxLen at hlen | apply And.intro; focus (first | omega | assumption | (repeat' apply And.intro) <;> first | omega | assumption)))
        rename_i Y hY
        have j12 : ∀ (f : F), f 0 = .sl .no (l.map pU) → f 2 = .bp m.nb 0 → f 3 = .bp (m.nb + 1) 0 → f 4 = pI k → f 6 = pI j → f 7 = .bp (m.nb + (r.length + 1 + 1)) 0 → X f (mm.ext (some zBk :: some [.sl o ((chV k).map Va.pv), .sl o2 (Q.map Qu.pv)] :: (r ++ [some (exC 4 0 0 (vNm a) [])]))) := by
          clear f0 f2 f3 f4 f6
          intro f f0 f2 f3 f4 f6 f7
          refine hX _ _ ?_
          clear hX X
          refine aSeq fun X hX => ?_
          have fin : ∀ (f : F) (kd op n : Int) (s : Str) (ks : List Ex), ((kd = 9 ∨ kd = 11) → ks ≠ []) → Ex.feds ks → f 0 = .sl .no (l.map pU) → f 2 = .bp m.nb 0 → f 3 = .bp (m.nb + 1) 0 → f 4 = pI k → f 6 = pI j → f 7 = .bp (m.nb + (r.length + 1 + 1)) 0 → X f (mm.ext (some zBk :: some [.sl o ((chV k).map Va.pv), .sl o2 (Q.map Qu.pv)] :: (r ++ [some (exC kd op n s (ks.map Ex.pv))]))) := by
            clear f0 f2 f3 f4 f6 f7
            intro f kd op n s ks hfd1 hfd2 f0 f2 f3 f4 f6 f7
            refine hX _ _ ?_
            clear hX X
            have hfr := hmi.free
            have hql := qu_len Q
            have hmx : Q.length + 1 ≤ maxLen := by unfold maxLen; omega
            (repeat (first | refine aSeq fun X hX => ?_ | refine aBlk ?_ | refine aSkip ?_ | (first | refine aExit ?_ | refine aRet ?_); try simp only [slx, ↓reduceIte, Nat.reduceEqDiff, reduceCtorEq] | (first | refine aReg ?_ | refine aIf ?_); simp -implicitDefEqProofs only [forall_eq, ↓slp, slb, ↓reduceIte, reduceCtorEq, jA, jB, jC, jD, jE, jF, jG, jH, jI, jJ, jK, tfInC, f0, f2, f3, f4, f6, f7, pI, hnb, zBk, gj, exC, List.set_cons_succ, List.cons_append, List.getElem?_cons_succ, List.set_cons_zero, List.getElem?_concat_length, set_concat_len]; try simp only [Ex.fold, Ex.foldcs, ← Va.pv.eq_1] | refine hX _ _ ?_; clear hX X | clear hX X; refine hX _ _ ?_; clear hX X | clear hX X; clear hX X; refine hX _ _ ?_; clear hX X | intro hlen; unfold maxLen at hlen | apply And.intro; focus (first | omega | assumption | (repeat' apply And.intro) <;> first | omega | assumption)))
            refine aDrwE (isT2 mm (some zBk :: some [.sl o ((chV k).map Va.pv), .sl o2 (Q.map Qu.pv)] :: (r ++ [some (exC kd op n s (ks.map Ex.pv))]))) (hne := List.cons_ne_nil _ _) rfl (by kernel_rfl) (by kernel_rfl) (isT2_of rfl) ?_
            have hnt : ∀ ts, (⟨mm.boxes, ts⟩ : M).nb = m.nb := fun ts => hnb
            simp -implicitDefEqProofs only [↓slp, slb, ↓reduceIte, reduceCtorEq, jA, jB, jC, jD, jE, jF, jG, jH, jI, jJ, jK, tfInC, f0, f2, f3, f4, f6, f7, pI, hnb, hnt, isT2_all, zBk, gj, Va.pv, Va.cs, exC, List.set_cons_succ, List.cons_append, List.getElem?_cons_succ, List.set_cons_zero, List.getElem?_concat_length, set_concat_len, List.getElem_cons_succ, List.getElem_cons_zero, List.getLast_cons_cons, List.getLast_singleton, List.dropLast_cons_cons, List.dropLast_singleton]; try simp only [Ex.fold, Ex.foldcs, ← Va.pv.eq_1]
            refine ⟨by omega, ⟨hfr, hql, hmx, by omega⟩, isT2_of (use_boxes _ _), ?_⟩
            refine hY _ _ ?_
            clear hY Y
            (repeat (first | refine aSeq fun X hX => ?_ | refine aBlk ?_ | refine aSkip ?_ | (first | refine aExit ?_ | refine aRet ?_); try simp only [slx, ↓reduceIte, Nat.reduceEqDiff, reduceCtorEq] | (first | refine aReg ?_ | refine aIf ?_); simp -implicitDefEqProofs only [forall_eq, ↓slp, slb, ↓reduceIte, reduceCtorEq, jA, jB, jC, jD, jE, jF, jG, jH, jI, jJ, jK, tfInC, f6, pI, hi]; try simp only [Ex.fold, Ex.foldcs, ← Va.pv.eq_1] | refine hX _ _ ?_; clear hX X | clear hX X; refine hX _ _ ?_; clear hX X | clear hX X; clear hX X; refine hX _ _ ?_; clear hX X | intro hlen; unfold maxLen at hlen | apply And.intro; focus (first | omega | assumption | (repeat' apply And.intro) <;> first | omega | assumption)))
            rw [hJ]
            refine ⟨⟨j + 1, o, .tok mm.nt, (o2.use mm).fresh 16, Q ++ [dfQ (vNm j) (.mk kd op n s [] ks 0 0)], r ++ [some (exC kd op n s (ks.map Ex.pv))], hlt, by simp [hQl], ?_, f0, f2, f3, f4, rfl, htk.use hmi, Mine.new htk o2 16, ?_⟩, by omega⟩
            · intro q hq
              rcases List.mem_append.1 hq with hq | hq
              · exact hQd q hq
              · rw [List.mem_singleton] at hq
                subst hq
                exact dfQ_def ⟨hfd1, hfd2⟩
            · rw [List.map_append, List.map_singleton, Qu.pv_eq]
              rfl
          cases b1 : (x.tmod 4 == 1) with
          | true =>
            (repeat (first | refine aSeq fun X hX => ?_ | refine aBlk ?_ | refine aSkip ?_ | (first | refine aExit ?_ | refine aRet ?_); try simp only [slx, ↓reduceIte, Nat.reduceEqDiff, reduceCtorEq] | (first | refine aReg ?_ | refine aIf ?_); simp -implicitDefEqProofs only [forall_eq, ↓slp, slb, ↓reduceIte, reduceCtorEq, jA, jB, jC, jD, jE, jF, jG, jH, jI, jJ, jK, tfInC, f0, f2, f3, f4, f6, f7, pI, hnb, zBk, g0, b1, exC, List.set_cons_succ, List.cons_append, List.getElem?_cons_succ, List.set_cons_zero, List.getElem?_concat_length, set_concat_len]; try simp only [Ex.fold, Ex.foldcs, ← Va.pv.eq_1] | refine hX _ _ ?_; clear hX X | clear hX X; refine hX _ _ ?_; clear hX X | clear hX X; clear hX X; refine hX _ _ ?_; clear hX X | intro hlen; unfold maxLen at hlen | apply And.intro; focus (first | omega | assumption | (repeat' apply And.intro) <;> first | omega | assumption)))
            exact fin _ 10 0 0 nE [vE (vNm a)] (by omega) ⟨⟨fun h => by omega, trivial⟩, trivial⟩ f0 f2 f3 f4 f6 f7
          | false =>
          cases b2 : (x.tmod 4 == 2) with
          | true =>
            (repeat (first | refine aSeq fun X hX => ?_ | refine aBlk ?_ | refine aSkip ?_ | (first | refine aExit ?_ | refine aRet ?_); try simp only [slx, ↓reduceIte, Nat.reduceEqDiff, reduceCtorEq] | (first | refine aReg ?_ | refine aIf ?_); simp -implicitDefEqProofs only [forall_eq, ↓slp, slb, ↓reduceIte, reduceCtorEq, jA, jB, jC, jD, jE, jF, jG, jH, jI, jJ, jK, tfInC, f0, f2, f3, f4, f6, f7, pI, hnb, zBk, g0, b1, b2, exC, List.set_cons_succ, List.cons_append, List.getElem?_cons_succ, List.set_cons_zero, List.getElem?_concat_length, set_concat_len]; try simp only [Ex.fold, Ex.foldcs, ← Va.pv.eq_1] | refine hX _ _ ?_; clear hX X | clear hX X; refine hX _ _ ?_; clear hX X | clear hX X; clear hX X; refine hX _ _ ?_; clear hX X | intro hlen; unfold maxLen at hlen | apply And.intro; focus (first | omega | assumption | (repeat' apply And.intro) <;> first | omega | assumption)))
            exact fin _ 11 0 0 nE [.mk 1 0 4 nE [] [] 0 0, vE (vNm a)] (by simp) ⟨⟨fun h => by omega, trivial⟩, ⟨fun h => by omega, trivial⟩, trivial⟩ f0 f2 f3 f4 f6 f7
          | false =>
          cases b3 : (x.tmod 4 == 3) with
          | true =>
            (repeat (first | refine aSeq fun X hX => ?_ | refine aBlk ?_ | refine aSkip ?_ | (first | refine aExit ?_ | refine aRet ?_); try simp only [slx, ↓reduceIte, Nat.reduceEqDiff, reduceCtorEq] | (first | refine aReg ?_ | refine aIf ?_); simp -implicitDefEqProofs only [forall_eq, ↓slp, slb, ↓reduceIte, reduceCtorEq, jA, jB, jC, jD, jE, jF, jG, jH, jI, jJ, jK, tfInC, f0, f2, f3, f4, f6, f7, pI, hnb, zBk, g0, b1, b2, b3, exC, List.set_cons_succ, List.cons_append, List.getElem?_cons_succ, List.set_cons_zero, List.getElem?_concat_length, set_concat_len]; try simp only [Ex.fold, Ex.foldcs, ← Va.pv.eq_1] | refine hX _ _ ?_; clear hX X | clear hX X; refine hX _ _ ?_; clear hX X | clear hX X; clear hX X; refine hX _ _ ?_; clear hX X | intro hlen; unfold maxLen at hlen | apply And.intro; focus (first | omega | assumption | (repeat' apply And.intro) <;> first | omega | assumption)))
            refine aDrwE (fun m2 => m2 = (mm.ext (some zBk :: some [.sl o ((chV k).map Va.pv), .sl o2 (Q.map Qu.pv)] :: (r ++ [some (exC 4 0 0 (vNm a) [])])))) (hne := List.cons_ne_nil _ _) rfl (by kernel_rfl) (by kernel_rfl) rfl ?_
            simp -implicitDefEqProofs only [↓slp, slb, ↓reduceIte, reduceCtorEq, jA, jB, jC, jD, jE, jF, jG, jH, jI, jJ, jK, tfInC, f0, f2, f3, f4, f6, f7, pI, hnb, forall_eq, zBk, gj, Va.pv, Va.cs, exC, List.set_cons_succ, List.cons_append, List.getElem?_cons_succ, List.set_cons_zero, List.getElem?_concat_length, set_concat_len, List.getElem_cons_succ, List.getElem_cons_zero, List.getLast_cons_cons, List.getLast_singleton, List.dropLast_cons_cons, List.dropLast_singleton]; try simp only [Ex.fold, Ex.foldcs, ← Va.pv.eq_1]
            refine ⟨by omega, ?_⟩
            exact fin _ 7 3 0 nE [vE (vNm a), vE (vNm j)] (by omega) ⟨⟨fun h => by omega, trivial⟩, ⟨fun h => by omega, trivial⟩, trivial⟩ f0 f2 f3 f4 f6 f7
          | false =>
            (repeat (first | refine aSeq fun X hX => ?_ | refine aBlk ?_ | refine aSkip ?_ | (first | refine aExit ?_ | refine aRet ?_); try simp only [slx, ↓reduceIte, Nat.reduceEqDiff, reduceCtorEq] | (first | refine aReg ?_ | refine aIf ?_); simp -implicitDefEqProofs only [forall_eq, ↓slp, slb, ↓reduceIte, reduceCtorEq, jA, jB, jC, jD, jE, jF, jG, jH, jI, jJ, jK, tfInC, f0, f2, f3, f4, f6, f7, pI, hnb, zBk, g0, b1, b2, b3, exC, List.set_cons_succ, List.cons_append, List.getElem?_cons_succ, List.set_cons_zero, List.getElem?_concat_length, set_concat_len]; try simp only [Ex.fold, Ex.foldcs, ← Va.pv.eq_1] | refine hX _ _ ?_; clear hX X | clear hX X; refine hX _ _ ?_; clear hX X | clear hX X; clear hX X; refine hX _ _ ?_; clear hX X | intro hlen; unfold maxLen at hlen | apply And.intro; focus (first | omega | assumption | (repeat' apply And.intro) <;> first | omega | assumption)))
            exact fin _ 4 0 0 (vNm a) [] (by omega) trivial f0 f2 f3 f4 f6 f7
        refine aFltN 14 (isR mm zBk [.sl o ((chV k).map Va.pv), .sl o2 (Q.map Qu.pv)]) (by simp only [List.length_cons, List.length_nil]; omega) (by kernel_rfl) isR_of ?_
        simp -implicitDefEqProofs only [↓slp, slb, ↓reduceIte, reduceCtorEq, jA, jB, jC, jD, jE, jF, jG, jH, jI, jJ, jK, tfInC, f0, f2, f3, f4, f6, pI, hnb, zBk, g0, hq4, ha, ga, isR_all, Va.pv, Va.cs, List.set_cons_succ, List.cons_append, List.getElem?_cons_succ, List.set_cons_zero, List.getElem_cons_succ, List.getElem_cons_zero, List.getLast_cons_cons, List.getLast_singleton, List.dropLast_cons_cons, List.dropLast_singleton, List.getElem?_concat_length, set_concat_len]; try simp only [Ex.fold, Ex.foldcs, ← Va.pv.eq_1]
        refine ⟨hjl, by omega, by omega, isR_of, isR_of, ?_⟩
        exact j12 _ f0 f2 f3 f4 f6 rfl
  refine ⟨fun c0 => ?_, fun c0 => ?_⟩
  · have h12 : 12 ≤ l.length := by simp at c0; omega
    (repeat (first | refine aSeq fun X hX => ?_ | refine aBlk ?_ | refine aSkip ?_ | (first | refine aExit ?_ | refine aRet ?_); try simp only [slx, ↓reduceIte, Nat.reduceEqDiff, reduceCtorEq] | (first | refine aReg ?_ | refine aDrE ?_); simp -implicitDefEqProofs only [forall_eq, ↓slp, slb, ↓reduceIte, reduceCtorEq, jA, jB, jC, jD, jE, jF, jG, jH, jI, jJ, jK, tfInC]; try simp only [Ex.fold, Ex.foldcs, ← Va.pv.eq_1] | refine hX _ _ ?_; clear hX X | clear hX X; refine hX _ _ ?_; clear hX X | clear hX X; clear hX X; refine hX _ _ ?_; clear hX X | intro hlen; unfold maxLen at hlen | apply And.intro; focus (first | omega | assumption | (repeat' apply And.intro) <;> first | omega | assumption)))
    exact join _ 12 (by omega) h12 rfl rfl rfl rfl
  · have h12 : l.length ≤ 12 := by simp at c0; omega
    (repeat (first | refine aSeq fun X hX => ?_ | refine aBlk ?_ | refine aSkip ?_ | (first | refine aExit ?_ | refine aRet ?_); try simp only [slx, ↓reduceIte, Nat.reduceEqDiff, reduceCtorEq] | (refine hX _ _ ?_; clear hX X) | (clear hX X; refine hX _ _ ?_; clear hX X)))
    exact join _ l.length h12 (by omega) rfl rfl rfl rfl
end Go.Proofs.Ytfemdelaciccmaa
