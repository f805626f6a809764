/-
 Texts that belong together: CsA, CsB.
-/
-- halved
import Derived.Test.YtaealemhegdmpaaCgE
import Derived.Test.YtaealemhegdmpaaPlA
import Derived.Test.YtaealemhegdmpaaAbDrw
/-
 The document's example of layer 11.
-/
set_option linter.unusedVariables false
set_option linter.unusedSimpArgs false
namespace Go.Proofs.Ytaealemhegdmpaa
open Nat renaming reduceEqDiff → jA, reduceAdd → jB, reduceMul → jC, reduceLT → jD, reduceLeDiff → jE, reduceBEq → jF, reduceBNe → jG
open Int renaming reduceLE → jH, reduceLT → jI, reduceToNat → jJ, reduceEq → jK
open Go
set_option maxRecDepth 20000
-- EXX: Qu.settle_pv, Qu.pure_pv, Qu.cells_pv, Qu.cs, No.settle_pv, No.pure_pv, No.cells_pv, No.cs, No.pv.eq_1
-- TNAMES: int; uint8; int32; string; bool; []uint8; []bool; []string; []api.Expr; api.Expr; api.Pos; api.Type; api.On; []api.On; api.Var; []api.Var; api.Equation; []api.Equation; api.Block; api.Node; []api.Node; api.Enum; []api.Enum; api.Program; error; api.Kind; api.Arm; []api.Arm


abbrev chU (n : Int) : PV := .v (.int .u8 n)
abbrev chE : Str := ⟨#[]⟩
def chZ : Ex := .mk 0 0 0 chE [] [] 0 0
def chVa (s : Str) : Va := ⟨s, ⟨2, chE⟩, [], false, chZ, 0, 0⟩
def chInt (n : Int) : Ex := .mk 1 0 n chE [] [] 0 0
def chVar (s : Str) : Ex := .mk 4 0 0 s [] [] 0 0
/-- Variables, each of which is a sum of others. -/
def chNm (i : Nat) : Str := ⟨#[118, UInt8.ofNat (97 + i)]⟩
def chK (l : List Int) : Nat := min l.length 12
def chA (l : List Int) (i : Nat) : Ex := if (l.getD i 0).tmod 3 = 0 then chInt 1 else chVar (chNm (((l.getD i 0).tdiv 16).toNat % chK l))
def chB (l : List Int) (kp : List Bool) (i : Nat) : Ex := if kp.getD i false then .mk 9 0 0 chE [] [chInt 0, chVar (chNm (((l.getD i 0).tmod 16).toNat % chK l))] 0 0 else chVar (chNm (((l.getD i 0).tmod 16).toNat % chK l))
def chQ (l : List Int) (kp : List Bool) (i : Nat) : Qu := .mk 1 [chNm i] chE [] false (.mk 7 3 0 chE [] [chA l i, chB l kp i] 0 0) [] 0 0
def chN (l : List Int) (kp : List Bool) : No := ⟨⟨#[102]⟩, [], [chVa ⟨#[120]⟩], ⟨(List.range (chK l)).map fun i => chVa (chNm i), .mk 1 [⟨#[120]⟩] chE [] false (chInt 0) [] 0 0 :: (List.range (chK l)).map (chQ l kp)⟩, 0, 0⟩
def chP (l : List Int) (kp : List Bool) : No := (plN (chN l kp) 0).1
def chPv (l : List Int) (kp : List Bool) : PV := .ag [.sl .no [], .sl .no [(chP l kp).pv]]
def chVs (n : Nat) : List Va := (List.range n).map fun i => chVa (chNm i)
theorem chV_len (n : Nat) : (chVs n).length = n := by simp [chVs]
theorem chV_at {n k : Nat} (h : k < (chVs n).length) : (chVs n)[k] = chVa (chNm k) := by simp [chVs]
theorem chV_succ (n : Nat) : chVs (n + 1) = chVs n ++ [chVa (chNm n)] := by simp [chVs, List.range_succ]
theorem ch_vaL (l : List Va) : ∀ x ∈ l.map Va.pv, x.cells.length = 15 := fun x hx => by
 obtain ⟨s, _, rfl⟩ := List.mem_map.1 hx; rfl
theorem ch_quL (l : List Qu) : ∀ x ∈ l.map Qu.pv, x.cells.length = 16 := fun x hx => by
 obtain ⟨s, _, rfl⟩ := List.mem_map.1 hx; rw [Qu.cells_pv]; rfl
theorem chNm_eq : ∀ i : Nat, i < 12 → (⟨#[118]⟩ : Str) ++ strOf [IntKind.u8.wrap (97 + (i : Int))] = chNm i := by decide +kernel
/-- An expression's cells, in a box of its own. -/
def chX (k op n : Int) (s : Str) (ks : List PV) : List PV := [.v (.int .u8 k), .v (.int .u8 op), .v (.int .i32 n), .v (.string s), .sl .full [], .sl .full ks, .v (.int .i64 0), .v (.int .i64 0)]
def chZB : List PV := [.sl .full [], .sl .full []]
/-- The node's cells. -/
def chNC (ov : Own) (V : List Va) (oq : Own) (Q : List Qu) : List PV := [.v (.string ⟨#[102]⟩), .sl .full [], .sl .full [(chVa ⟨#[120]⟩).pv], .sl ov (V.map Va.pv), .sl oq (Q.map Qu.pv), .v (.int .i64 0), .v (.int .i64 0)]
def chQ0 : Qu := .mk 1 [⟨#[120]⟩] chE [] false (chInt 0) [] 0 0
def chRw (l : List Int) (kp : List Bool) (j : Nat) : List Qu := chQ0 :: (List.range j).map (chQ l kp)
theorem chRw_len (l : List Int) (kp : List Bool) (j : Nat) : (chRw l kp j).length = j + 1 := by simp [chRw]
theorem chRw_succ (l : List Int) (kp : List Bool) (j : Nat) : chRw l kp (j + 1) = chRw l kp j ++ [chQ l kp j] := by simp [chRw, List.range_succ]
/-- The states that hold these two boxes, and others. -/
def isR (mm : M) (a b : List PV) (m2 : M) : Prop := ∃ r, m2 = mm.ext (some a :: some b :: r)
theorem isR_all {mm : M} {a b : List PV} {Q : M → Prop} : (∀ m2, isR mm a b m2 → Q m2) = ∀ r, Q (mm.ext (some a :: some b :: r)) :=
 propext ⟨fun h r => h _ ⟨r, rfl⟩, fun h m2 ⟨r, e⟩ => e ▸ h r⟩
theorem isR_of {mm : M} {a b : List PV} {r : List (Option (List PV))} : isR mm a b (mm.ext (some a :: some b :: r)) := ⟨r, rfl⟩
/-- The states that differ in tokens. -/
def isT2 (mm : M) (bs : List (Option (List PV))) (m2 : M) : Prop := ∃ ts, m2 = (⟨mm.boxes, ts⟩ : M).ext bs
theorem isT2_all {mm : M} {bs : List (Option (List PV))} {Q : M → Prop} : (∀ m2, isT2 mm bs m2 → Q m2) = ∀ ts, Q ((⟨mm.boxes, ts⟩ : M).ext bs) :=
 propext ⟨fun h r => h _ ⟨r, rfl⟩, fun h m2 ⟨r, e⟩ => e ▸ h r⟩
theorem isT2_of {mm m3 : M} {bs : List (Option (List PV))} (h : m3.boxes = mm.boxes) : isT2 mm bs (m3.ext bs) := ⟨m3.toks, by rw [← h]⟩
theorem ch_quo {x : Int} (h0 : 0 ≤ x) (h1 : x ≤ 255) : IntKind.i64.wrap (IntKind.u8.wrap (x.tdiv 16)) = x / 16 := by
 rw [IntWalk.u8_quo x 16 ⟨h0, h1, by omega⟩, wrap64 (by omega)]
section
variable {α : Type} (r : List α) (a b c : α)
theorem ch_l1 : (r ++ [a]).length = r.length + 1 := by simp
theorem ch_gB : (r ++ [a] ++ [b])[r.length + 1]? = some b := by simp
theorem ch_sB : (r ++ [a] ++ [b]).set (r.length + 1) c = r ++ [a] ++ [c] := by simp
theorem ch_gA : (r ++ [a] ++ [b])[r.length]? = some a := by simp
theorem ch_sA : (r ++ [a] ++ [b]).set r.length c = r ++ [c] ++ [b] := by simp
end
theorem ch_ix {x : Int} {k : Nat} (h : 0 ≤ x) (hk : 0 < k) : ∃ a : Nat, x.tmod (k : Int) = (a : Int) ∧ a < k ∧ a = x.toNat % k := by
 obtain ⟨y, rfl⟩ := Int.eq_ofNat_of_zero_le h
 exact ⟨y % k, rfl, Nat.mod_lt _ hk, by simp⟩
theorem chZ_nar : chZ.nar := ⟨by decide, trivial⟩
theorem chA_cs (l : List Int) (i : Nat) : chA l i = chInt 1 ∨ ∃ s, chA l i = chVar s := by
 unfold chA; split
 ·exact .inl rfl
 ·exact .inr ⟨_, rfl⟩
theorem chB_cs (l : List Int) (kp : List Bool) (i : Nat) : (∃ s, chB l kp i = chVar s) ∨ ∃ s, chB l kp i = .mk 9 0 0 chE [] [chInt 0, chVar s] 0 0 := by
 unfold chB; split
 ·exact .inr ⟨_, rfl⟩
 ·exact .inl ⟨_, rfl⟩
theorem ch_flat (l : List Int) (kp : List Bool) : (chN l kp).flat := by
 refine ⟨⟨Nat.zero_le _, fun v hv => by cases hv⟩, ⟨by show 1 ≤ 1000000; omega, fun v hv => ?_⟩, ⟨?_, fun v hv => ?_⟩, ⟨?_, fun q hq => ?_⟩⟩
 ·rw [show (chN l kp).outs = [chVa ⟨#[120]⟩] from rfl, List.mem_singleton] at hv; rw [hv]; exact chZ_nar
 ·show ((List.range (chK l)).map _).length ≤ _; simp [chK]; omega
 ·obtain ⟨i, _, rfl⟩ := List.mem_map.1 (show v ∈ (List.range (chK l)).map _ from hv); exact chZ_nar
 ·show (chRw l kp (chK l)).length ≤ _; rw [chRw_len]; unfold chK; omega
 ·rcases List.mem_cons.1 (show q ∈ chQ0 :: (List.range (chK l)).map (chQ l kp) from hq) with rfl | hq
  ·exact ⟨⟨by decide, trivial⟩, ⟨by decide, trivial⟩, rfl⟩
  ·obtain ⟨i, _, rfl⟩ := List.mem_map.1 hq
   refine ⟨?_, ⟨by simp [chQ, Qu.args], trivial⟩, rfl⟩
   show Ex.nar (.mk 7 3 0 chE [] [chA l i, chB l kp i] 0 0)
   have h1 : (chA l i).nar := by rcases chA_cs l i with h | ⟨s, h⟩ <;> rw [h] <;> exact ⟨by simp, trivial⟩
   have h2 : (chB l kp i).nar := by
    rcases chB_cs l kp i with ⟨s, h⟩ | ⟨s, h⟩ <;> rw [h]
    ·exact ⟨by simp, trivial⟩
    ·exact ⟨by simp, ⟨by simp, trivial⟩, ⟨by simp, trivial⟩, trivial⟩
   exact ⟨by simp, h1, h2, trivial⟩
theorem chQ_pv (s s2 s3 : Str) (kd2 n2 kd : Int) (ks : List Ex) : (Qu.mk 1 [s] chE [] false (.mk 7 3 0 chE [] [.mk kd2 0 n2 s2 [] [] 0 0, .mk kd 0 0 s3 [] ks 0 0] 0 0) [] 0 0).pv =
    .ag [.v (.int .u8 1), .sl .no [.v (.string s)], .v (.string ⟨#[]⟩), .sl .no [], .v (.bool false), .v (.int .u8 7), .v (.int .u8 3), .v (.int .i32 0), .v (.string ⟨#[]⟩), .sl .no [],
     .sl .no [.ag [.v (.int .u8 kd2), .v (.int .u8 0), .v (.int .i32 n2), .v (.string s2), .sl .no [], .sl .no [], .v (.int .i64 0), .v (.int .i64 0)], .ag [.v (.int .u8 kd), .v (.int .u8 0), .v (.int .i32 0), .v (.string s3), .sl .no [], .sl .no (ks.map Ex.pv), .v (.int .i64 0), .v (.int .i64 0)]],
     .v (.int .i64 0), .v (.int .i64 0), .sl .no [], .v (.int .i64 0), .v (.int .i64 0)] := by
 have e1 := Ex.pv_eq (.mk kd2 0 n2 s2 [] [] 0 0)
 have e2 := Ex.pv_eq (.mk kd 0 0 s3 [] ks 0 0)
 rw [Qu.pv_eq]
 show PV.ag [_, _, _, _, _, _, _, _, _, _, .sl .no [Ex.pv _, Ex.pv _], _, _, _, _, _] = _
 rw [e1, e2]
 rfl
set_option maxHeartbeats 8000000 in
theorem program_any (l : List Int) (hel : ∀ x ∈ l, 0 ≤ x ∧ x ≤ 255) (kp : List Bool) (m : M) : ACalls Try.prog 11 [.sl .no (l.map chU), .sl .no (kp.map pB)] m (fun v m' => v = chPv l kp ∧ m' = m) := by
 refine ACalls.enter (mu := [4, 5, 9, 10]) ok_mix Try.func11 rfl (by kernel_rfl) (by kernel_rfl) (by simp only [List.length_cons, List.length_nil, Try.ntmps11]; omega) ?_
 (repeat (first | refine aSeq fun X hX => ?_ | (first | apply aReg | apply aIf); simp -implicitDefEqProofs only [forall_eq, ↓slp, ↓reduceIte, reduceCtorEq, jA, jB, jC, jD, jE, jF, Y3] | apply hX; clear hX X | intro hlen; unfold maxLen at hlen))
 have join : ∀ (f : F) (n : Nat), n = chK l → f 0 = .sl .no (l.map chU) → f 1 = .sl .no (kp.map pB) → f 4 = .bp m.nb 0 → f 5 = .bp (m.nb + 1) 0 → f 6 = pI n → X f (m.ext [some chZB, some (chNC .full [] .full [])]) := by
  intro f n hnk f0 f1 f4 f5 f6
  have hn : n ≤ 12 := by rw [hnk]; unfold chK; omega
  have hnl : n ≤ l.length := by rw [hnk]; unfold chK; omega
  refine hX _ _ ?_
  clear hX X
  (repeat (first | refine aSeq fun X hX => ?_ | refine aBlk ?_ | refine aReg ?_; simp -implicitDefEqProofs only [↓slp, slb, jF] | apply hX; clear hX X))
  obtain ⟨I, hI⟩ : ∃ I : F → M → Prop, ∀ f m', I f m' = (∃ (k : Nat) (o : Own) (mm : M), k ≤ n ∧ f 0 = .sl .no (l.map chU) ∧ f 1 = .sl .no (kp.map pB) ∧ f 4 = .bp m.nb 0 ∧ f 5 = .bp (m.nb + 1) 0 ∧ f 6 = pI n ∧ f 7 = pI k ∧ Toks m mm ∧ Mine m mm o 15 ∧ m' = mm.ext [some chZB, some (chNC o (chVs k) .full [])]) := ⟨_, fun _ _ => rfl⟩
  refine aLoop I (fun f m => n - numOf (f 7)) ?_ ?_
  ·rw [hI]; exact ⟨0, .full, m, by omega, f0, f1, f4, f5, f6, rfl, .refl _, .full, rfl⟩
  clear f0 f1 f4 f5 f6
  intro f m' hrel
  rw [hI] at hrel
  obtain ⟨k, o, mm, hk, f0, f1, f4, f5, f6, f7, htk, hmi, rfl⟩ := hrel
  have hnb := htk.nb
  cases c1 : decide ((k : Int) < (n : Int)) with
  | true =>
   have hlt : k < n := by simpa using c1
   have hi : IntKind.i64.wrap ((k : Int) + 1) = ((k + 1 : Nat) : Int) := by rw [wrap64 (by omega)]; omega
   have hi2 : IntKind.i64.wrap (97 + (k : Int)) = 97 + (k : Int) := by rw [wrap64 (by omega)]
   have hme : numOf (f 7) = k := by rw [f7]; exact Int.toNat_natCast k
   have hsz : (⟨#[118]⟩ : ByteArray).size + (strOf [IntKind.u8.wrap (97 + (k : Int))]).size ≤ 100 := by
    have : (strOf [IntKind.u8.wrap (97 + (k : Int))]).size = 1 := rfl
    rw [this]; decide
   have hll := chV_len k
   have hmx : (chVs k).length + 1 ≤ maxLen := by unfold maxLen; omega
   have hfr := hmi.free
   have hvl := ch_vaL (chVs k)
   (repeat (first | refine aSeq fun X hX => ?_ | refine aBlk ?_ | refine aSkip ?_ | (first | apply aReg | apply aIf); simp -implicitDefEqProofs only [forall_eq, ↓slp, ↓reduceIte, reduceCtorEq, jA, jB, jC, jD, jE, jF, Y3, f5, f6, f7, pI, c1, hi, hi2, hnb, chZB, chNC] | apply hX; clear hX X | apply And.intro; focus (first | omega | (repeat' apply And.intro) <;> first | omega | assumption)))
   rw [hI]
   refine ⟨⟨k + 1, .tok mm.nt, (o.use mm).fresh 15, hlt, f0, f1, f4, f5, f6, rfl, htk.use hmi, Mine.new htk o 15, ?_⟩, by omega⟩
   rw [chV_succ, ← chNm_eq k (by omega)]
   unfold chNC
   rw [List.map_append]
   rfl
  | false =>
   have hk' : k = n := by simp at c1; omega
   subst hk'
   (repeat (first | refine aSeq fun X hX => ?_ | refine aBlk ?_ | refine aExit ?_; try simp only [slx, ↓reduceIte, jA, reduceCtorEq] | (first | apply aReg | apply aIf); simp -implicitDefEqProofs only [forall_eq, ↓slp, ↓reduceIte, reduceCtorEq, jA, jB, jC, jD, jE, jF, Y3, f5, f6, f7, pI, c1, hnb, chZB, chNC] | apply hX; clear hX X | clear hX X; apply hX; clear hX X))
   have hk12 : k ≤ 12 := hn
   obtain ⟨J, hJ⟩ : ∃ J : F → M → Prop, ∀ f m', J f m' = (∃ (j : Nat) (o2 : Own) (mm : M) (r : List (Option (List PV))), j ≤ k ∧ f 0 = .sl .no (l.map chU) ∧ f 1 = .sl .no (kp.map pB) ∧ f 4 = .bp m.nb 0 ∧ f 5 = .bp (m.nb + 1) 0 ∧ f 6 = pI k ∧ f 8 = pI j ∧ Toks m mm ∧ Mine m mm o2 16 ∧ m' = mm.ext (some chZB :: some (chNC o (chVs k) o2 (chRw l kp j)) :: r)) := ⟨_, fun _ _ => rfl⟩
   refine aLoop J (fun f m => k - numOf (f 8)) ?_ ?_
   ·rw [hJ]; exact ⟨0, .full, mm, [], by omega, f0, f1, f4, f5, f6, rfl, htk, .full, rfl⟩
   clear hmi htk hnb f0 f1 f4 f5 f6 f7 hI I
   intro f m' hrel
   rw [hJ] at hrel
   obtain ⟨j, o2, mm, r, hj, f0, f1, f4, f5, f6, f8, htk, hmi, rfl⟩ := hrel
   have hnb := htk.nb
   cases c2 : decide ((j : Int) < (k : Int)) with
   | false =>
    obtain rfl : j = k := by simp at c2; omega
    (repeat (first | refine aSeq fun X hX => ?_ | refine aExit ?_; try simp only [slx, ↓reduceIte, jA, reduceCtorEq] | (first | apply aReg | apply aIf); simp -implicitDefEqProofs only [forall_eq, ↓slp, ↓reduceIte, jA, jB, jC, jE, jF, Y3, f5, f6, f8, pI, c2, hnb, chZB, chNC] | apply hX; clear hX X | clear hX X; apply hX; clear hX X))
    have hp := placed_any [chN l kp] (by simp) (fun n hn => by rw [List.mem_singleton] at hn; rw [hn]; exact ch_flat l kp)
    refine callMS (hp _) (by simp only [List.map_cons, List.map_nil, PV.settle, PV.settles]; rw [hnk]; rfl) ?_
    rintro v mv ⟨rfl, rfl⟩
    simp -implicitDefEqProofs only [↓slp, ↓reduceIte, jA, jB, jE, Y3, f4, hnb]
    (repeat (first | refine aRet ?_ | apply hX; clear hX X))
    simp only [aPost, Try.results11, aRes_n, aRes_t, aRes_c, pack_one, pack_two]
    simp -implicitDefEqProofs only [↓reduceIte, jA, jB, jE, Y3, f4, hnb]
    exact leave_toks htk rfl ⟨rfl, rfl⟩
   | true =>
    have hlt : j < k := by simpa using c2
    have hi : IntKind.i64.wrap ((j : Int) + 1) = ((j + 1 : Nat) : Int) := by rw [wrap64 (by omega)]; omega
    have hme : numOf (f 8) = j := by rw [f8]; exact Int.toNat_natCast j
    have hjl : j < l.length := by omega
    have g0 := getD_map chU l j hjl
    obtain ⟨hx0, hx1⟩ := hel l[j] (List.getElem_mem hjl)
    have hgx : l.getD j 0 = l[j] := by simp [List.getD, hjl]
    obtain ⟨x, hx⟩ : ∃ x, l[j] = x := ⟨_, rfl⟩
    rw [hx] at g0 hx0 hx1 hgx
    have hq4 := ch_quo hx0 hx1
    have hr16 : IntKind.i64.wrap (x.tmod 16) = x.tmod 16 := by
     have h1 := Int.tmod_nonneg (a := x) 16 hx0
     have h2 := Int.tmod_lt_of_pos x (show (0 : Int) < 16 by omega)
     exact wrap64 (by omega)
    obtain ⟨a, ha, hak, hae⟩ := ch_ix (x := x / 16) (k := k) (by omega) (by omega)
    obtain ⟨b, hb, hbk, hbe⟩ := ch_ix (x := x.tmod 16) (k := k) (Int.tmod_nonneg _ hx0) (by omega)
    have ga := getD_map Va.pv (chVs k) a (by rw [chV_len]; exact hak)
    rw [chV_at] at ga
    have gb := getD_map Va.pv (chVs k) b (by rw [chV_len]; exact hbk)
    rw [chV_at] at gb
    have gj := getD_map Va.pv (chVs k) j (by rw [chV_len]; exact hlt)
    rw [chV_at] at gj
    have hcl := chV_len k
    have hk0 : ((k : Int)) ≠ 0 := by omega
    have hl1 := fun (x : Option (List PV)) => ch_l1 r x
    have hqA := fun (x y : Option (List PV)) => ch_gA r x y
    have hqB := fun (x y : Option (List PV)) => ch_gB r x y
    have hsA := fun (x y z : Option (List PV)) => ch_sA r x y z
    have hsB := fun (x y z : Option (List PV)) => ch_sB r x y z
    obtain ⟨W, hW⟩ : ∃ W, (chVa ⟨#[120]⟩).pv = W := ⟨_, rfl⟩
    obtain ⟨Ta, hTa, hLa⟩ : ∃ T, (chVa (chNm a)).pv = .ag (pS (chNm a) :: T) ∧ T.length = 14 := ⟨_, rfl, rfl⟩
    obtain ⟨Tb, hTb, hLb⟩ : ∃ T, (chVa (chNm b)).pv = .ag (pS (chNm b) :: T) ∧ T.length = 14 := ⟨_, rfl, rfl⟩
    obtain ⟨Tj, hTj, hLj⟩ : ∃ T, (chVa (chNm j)).pv = .ag (pS (chNm j) :: T) ∧ T.length = 14 := ⟨_, rfl, rfl⟩
    rw [hTa] at ga
    rw [hTb] at gb
    rw [hTj] at gj
    (repeat (first | refine aSeq fun X hX => ?_ | refine aSkip ?_ | (first | apply aReg | apply aIf); simp -implicitDefEqProofs only [↓slp, slb, ↓reduceIte, reduceCtorEq, jA, jF, f6, f8, pI, c2, chZB, chNC, hW] | apply hX; clear hX X))
    rename_i Y hY
    have j13 : ∀ (f : F), f 0 = .sl .no (l.map chU) → f 1 = .sl .no (kp.map pB) → f 4 = .bp m.nb 0 → f 5 = .bp (m.nb + 1) 0 → f 6 = pI k → f 8 = pI j → f 9 = .bp (m.nb + (r.length + 1 + 1)) 0 → X f (mm.ext (some chZB :: some [.v (.string ⟨#[102]⟩), .sl .full [], .sl .full [W], .sl o ((chVs k).map Va.pv), .sl o2 ((chRw l kp j).map Qu.pv), .v (.int .i64 0), .v (.int .i64 0)] :: (r ++ [some (chX 4 0 0 (chNm a) [])]))) := by
     clear f0 f1 f4 f5 f6 f8
     intro f f0 f1 f4 f5 f6 f8 f9
     refine hX _ _ ?_
     clear hX X
     refine aSeq fun X hX => ?_
     have j14 : ∀ (f : F), f 0 = .sl .no (l.map chU) → f 1 = .sl .no (kp.map pB) → f 4 = .bp m.nb 0 → f 5 = .bp (m.nb + 1) 0 → f 6 = pI k → f 8 = pI j → f 9 = .bp (m.nb + (r.length + 1 + 1)) 0 → f 10 = .bp (m.nb + (r.length + 1 + 1 + 1)) 0 → X f (mm.ext (some chZB :: some [.v (.string ⟨#[102]⟩), .sl .full [], .sl .full [W], .sl o ((chVs k).map Va.pv), .sl o2 ((chRw l kp j).map Qu.pv), .v (.int .i64 0), .v (.int .i64 0)] :: (r ++ [some (chX 4 0 0 (chNm a) [])] ++ [some (chX 4 0 0 (chNm b) [])]))) := by
      clear f0 f1 f4 f5 f6 f8 f9
      intro f f0 f1 f4 f5 f6 f8 f9 f10
      refine hX _ _ ?_
      clear hX X
      refine aSeq fun X hX => ?_
      have jB : ∀ (f : F) (kd : Int) (s : Str) (ks : List Ex), chB l kp j = .mk kd 0 0 s [] ks 0 0 → f 0 = .sl .no (l.map chU) → f 1 = .sl .no (kp.map pB) → f 4 = .bp m.nb 0 → f 5 = .bp (m.nb + 1) 0 → f 6 = pI k → f 8 = pI j → f 9 = .bp (m.nb + (r.length + 1 + 1)) 0 → f 10 = .bp (m.nb + (r.length + 1 + 1 + 1)) 0 → X f (mm.ext (some chZB :: some [.v (.string ⟨#[102]⟩), .sl .full [], .sl .full [W], .sl o ((chVs k).map Va.pv), .sl o2 ((chRw l kp j).map Qu.pv), .v (.int .i64 0), .v (.int .i64 0)] :: (r ++ [some (chX 4 0 0 (chNm a) [])] ++ [some (chX kd 0 0 s (ks.map Ex.pv))]))) := by
       clear f0 f1 f4 f5 f6 f8 f9 f10
       intro f kd s ks hB f0 f1 f4 f5 f6 f8 f9 f10
       refine hX _ _ ?_
       clear hX X
       refine aSeq fun X hX => ?_
       have jA : ∀ (f : F) (kd2 n2 : Int) (s2 : Str), chA l j = .mk kd2 0 n2 s2 [] [] 0 0 → f 0 = .sl .no (l.map chU) → f 1 = .sl .no (kp.map pB) → f 4 = .bp m.nb 0 → f 5 = .bp (m.nb + 1) 0 → f 6 = pI k → f 8 = pI j → f 9 = .bp (m.nb + (r.length + 1 + 1)) 0 → f 10 = .bp (m.nb + (r.length + 1 + 1 + 1)) 0 → X f (mm.ext (some chZB :: some [.v (.string ⟨#[102]⟩), .sl .full [], .sl .full [W], .sl o ((chVs k).map Va.pv), .sl o2 ((chRw l kp j).map Qu.pv), .v (.int .i64 0), .v (.int .i64 0)] :: (r ++ [some (chX kd2 0 n2 s2 [])] ++ [some (chX kd 0 0 s (ks.map Ex.pv))]))) := by
        clear f0 f1 f4 f5 f6 f8 f9 f10
        intro f kd2 n2 s2 hA f0 f1 f4 f5 f6 f8 f9 f10
        refine hX _ _ ?_
        clear hX X
        have hfr := hmi.free
        have hql := ch_quL (chRw l kp j)
        have hcr := chRw_len l kp j
        have hmx : (chRw l kp j).length + 1 ≤ maxLen := by unfold maxLen; omega
        refine aDrwE (isT2 mm (some chZB :: some [.v (.string ⟨#[102]⟩), .sl .full [], .sl .full [W], .sl o ((chVs k).map Va.pv), .sl o2 ((chRw l kp j).map Qu.pv), .v (.int .i64 0), .v (.int .i64 0)] :: (r ++ [some (chX kd2 0 n2 s2 [])] ++ [some (chX kd 0 0 s (ks.map Ex.pv))]))) (hne := List.cons_ne_nil _ _) rfl (by kernel_rfl) (by kernel_rfl) (isT2_of rfl) ?_
        have hnt : ∀ ts, (⟨mm.boxes, ts⟩ : M).nb = m.nb := fun ts => hnb
        simp -implicitDefEqProofs only [↓slp, ↓reduceIte, reduceCtorEq, jA, jB, jC, jD, jE, jF, Y3, f5, f8, f9, f10, pI, hnb, hnt, chZB, chX, gj, hqA, hqB, isT2_all, List.getLast_cons_cons, List.getLast_singleton, List.dropLast_cons_cons, List.dropLast_singleton]
        refine ⟨⟨by omega, hLj⟩, ⟨hfr, hql, hmx, by omega⟩, isT2_of (use_boxes _ _), ?_⟩
        refine hY _ _ ?_
        clear hY Y
        (repeat (refine aReg ?_; simp -implicitDefEqProofs only [↓slp, slb, ↓reduceIte, jA, jF, f8, pI, hi]))
        rw [hJ]
        refine ⟨⟨j + 1, .tok mm.nt, (o2.use mm).fresh 16, r ++ [some (chX kd2 0 n2 s2 [])] ++ [some (chX kd 0 0 s (ks.map Ex.pv))], hlt, f0, f1, f4, f5, f6, rfl, htk.use hmi, Mine.new htk o2 16, ?_⟩, by omega⟩
        rw [chRw_succ, show chQ l kp j = .mk 1 [chNm j] chE [] false (.mk 7 3 0 chE [] [chA l j, chB l kp j] 0 0) [] 0 0 from rfl, hA, hB]
        unfold chNC
        rw [List.map_append, List.map_singleton, hW, chQ_pv]
        rfl
       cases c4 : (x.tmod 3 == 0) with
       | true =>
        have hA : chA l j = chInt 1 := by unfold chA; rw [hgx, if_pos (by simpa using c4)]
        (repeat (first | refine aSeq fun X hX => ?_ | refine aReg ?_; simp -implicitDefEqProofs only [↓slp, ↓reduceIte, reduceCtorEq, jF, Y3, f0, f8, pI]))
        simp only [reduceIte, Nat.reduceEqDiff, reduceCtorEq]
        simp -implicitDefEqProofs only [↓reduceIte, jB, jK, Y3, g0, c4]
        (repeat (first | (first | apply aReg | apply aIf); simp -implicitDefEqProofs only [↓slp, ↓reduceIte, reduceCtorEq, jB, jD, jE, jF, Y3, f9, chZB, chX] | apply hX; clear hX X | apply And.intro; focus omega))
        simp only [reduceIte, Nat.reduceEqDiff, reduceCtorEq]
        simp -implicitDefEqProofs only [slb, jB, jE, hnb, hqA, hsA]
        trace_state
        exact jA _ 1 1 chE hA f0 f1 f4 f5 f6 f8 f9 f10
       | false =>
        have hA : chA l j = chVar (chNm a) := by unfold chA; rw [hgx, if_neg (by simpa using c4), Int.tdiv_eq_ediv_of_nonneg hx0, ← hnk, ← hae]
        (repeat (first | refine aSeq fun X hX => ?_ | refine aReg ?_; simp -implicitDefEqProofs only [↓slp, ↓reduceIte, reduceCtorEq, jF, Y3, f0, f8, pI]))
        simp only [reduceIte, Nat.reduceEqDiff, reduceCtorEq]
        simp -implicitDefEqProofs only [↓reduceIte, jB, jK, Y3, g0, c4]
        (repeat (first | refine aSkip ?_ | refine aIf ?_; simp -implicitDefEqProofs only [slb, ↓reduceIte, chZB, chX] | apply hX; clear hX X | apply And.intro; focus omega))
        exact jA _ 4 0 (chNm a) hA f0 f1 f4 f5 f6 f8 f9 f10
      cases c3 : decide ((j : Int) < (kp.length : Int)) with
      | false =>
       have hB : chB l kp j = chVar (chNm b) := by
        have : kp.getD j false = false := by rw [List.getD, List.getElem?_eq_none (by simp at c3; omega)]; rfl
        unfold chB; rw [this, if_neg (by decide), hgx, ← hnk, ← hbe]
       (repeat (first | refine aSeq fun X hX => ?_ | refine aSkip ?_ | (first | apply aReg | apply aIf); simp -implicitDefEqProofs only [↓slp, ↓reduceIte, jA, jF, Y3, f1, f8, pI, chZB, chX, c3] | apply hX; clear hX X | intro hlen; unfold maxLen at hlen))
       exact jB _ 4 (chNm b) [] hB f0 f1 f4 f5 f6 f8 f9 f10
      | true =>
       have hltk : j < kp.length := by simpa using c3
       have gk := getD_map pB kp j hltk
       cases c5 : kp[j] with
       | false =>
        have hB : chB l kp j = chVar (chNm b) := by
         have : kp.getD j false = false := by rw [List.getD, List.getElem?_eq_getElem hltk, c5]; rfl
         unfold chB; rw [this, if_neg (by decide), hgx, ← hnk, ← hbe]
        rw [c5] at gk
        (repeat (first | refine aSeq fun X hX => ?_ | refine aSkip ?_ | (first | apply aReg | apply aIf); simp -implicitDefEqProofs only [↓slp, ↓reduceIte, jA, jF, Y3, f1, f8, pI, pB, chZB, chX, gk, hltk, c3] | apply hX; clear hX X | intro hlen; unfold maxLen at hlen))
        exact jB _ 4 (chNm b) [] hB f0 f1 f4 f5 f6 f8 f9 f10
       | true =>
        have hB : chB l kp j = .mk 9 0 0 chE [] [chInt 0, chVar (chNm b)] 0 0 := by
         have : kp.getD j false = true := by rw [List.getD, List.getElem?_eq_getElem hltk, c5]; rfl
         unfold chB; rw [this, if_pos rfl, hgx, ← hnk, ← hbe]
        rw [c5] at gk
        (repeat (first | refine aSeq fun X hX => ?_ | (first | apply aReg | apply aIf); simp -implicitDefEqProofs only [forall_eq, ↓slp, ↓reduceIte, reduceCtorEq, jA, jC, jE, jF, Y3, f1, f8, f10, pI, pB, hnb, chZB, chX, gk, hltk, c3, hqB, hsB] | apply hX; clear hX X | intro hlen; unfold maxLen at hlen | apply And.intro; focus omega))
        exact jB _ 9 chE [chInt 0, chVar (chNm b)] hB f0 f1 f4 f5 f6 f8 f9 f10
     refine aFltN 15 (isR mm chZB [.v (.string ⟨#[102]⟩), .sl .full [], .sl .full [W], .sl o ((chVs k).map Va.pv), .sl o2 ((chRw l kp j).map Qu.pv), .v (.int .i64 0), .v (.int .i64 0)]) (by simp only [List.length_cons, List.length_nil]; omega) (by kernel_rfl) isR_of ?_
     simp -implicitDefEqProofs only [↓slp, ↓reduceIte, reduceCtorEq, jA, jB, jD, jE, jF, jK, Y3, f0, f5, f6, f8, pI, hnb, chZB, chX, g0, hr16, hb, gb, hl1, hqB, hsB, isR_all, List.getElem_cons_succ, List.getElem_cons_zero, List.getLast_cons_cons, List.getLast_singleton, List.dropLast_singleton]
     refine ⟨hjl, by omega, by omega, isR_of, isR_of, ?_⟩
     exact j14 _ f0 f1 f4 f5 f6 f8 f9 rfl
    refine aFltN 15 (isR mm chZB [.v (.string ⟨#[102]⟩), .sl .full [], .sl .full [W], .sl o ((chVs k).map Va.pv), .sl o2 ((chRw l kp j).map Qu.pv), .v (.int .i64 0), .v (.int .i64 0)]) (by simp only [List.length_cons, List.length_nil]; omega) (by kernel_rfl) isR_of ?_
    simp -implicitDefEqProofs only [↓slp, ↓reduceIte, reduceCtorEq, jA, jB, jD, jE, jF, jK, Y3, f0, f5, f6, f8, pI, hnb, chZB, g0, hq4, ha, ga, isR_all, List.getElem_cons_succ, List.getElem_cons_zero, List.getLast_cons_cons, List.getLast_singleton, List.dropLast_singleton, List.getElem?_concat_length, set_concat_length]
    refine ⟨hjl, by omega, by omega, isR_of, isR_of, ?_⟩
    exact j13 _ f0 f1 f4 f5 f6 f8 rfl
 refine ⟨fun c0 => ?_, fun c0 => ?_⟩
 ·have h12 : 12 ≤ l.length := by simp at c0; omega
  (repeat (refine aReg ?_; simp -implicitDefEqProofs only [↓slp, slb, jF]))
  exact join _ 12 (by unfold chK; omega) rfl rfl rfl rfl rfl
 ·have h12 : l.length ≤ 12 := by simp at c0; omega
  (repeat refine aSkip ?_)
  exact join _ l.length (by unfold chK; omega) rfl rfl rfl rfl rfl
end Go.Proofs.Ytaealemhegdmpaa

/-
 The document's example of layer 11: Check on it.
-/
set_option linter.unusedVariables false
set_option linter.unusedSimpArgs false
namespace Go.Proofs.Ytaealemhegdmpaa
open Nat renaming reduceEqDiff → jA, reduceAdd → jB, reduceMul → jC, reduceLT → jD, reduceLeDiff → jE, reduceBEq → jF, reduceBNe → jG
open Int renaming reduceLE → jH, reduceLT → jI, reduceToNat → jJ, reduceEq → jK
open Go
set_option maxRecDepth 20000
-- EXX: No.settle_pv, No.pure_pv, No.cells_pv, No.cs, No.pv.eq_1
-- TNAMES: int; uint8; int32; string; bool; []uint8; []bool; api.Program; error; api.Kind
set_option linter.defProp false
def Yh := And.intro @slb (And.intro @tfA (And.intro @Ex.settle_pv (And.intro @Ex.pure_pv (And.intro @Ex.cells_pv (And.intro @Ex.cs.eq_1 (And.intro @On.pv.eq_1 (And.intro @Ty.pv.eq_1 (And.intro @Va.settle_pv (And.intro @Va.pure_pv (And.intro @Va.cells_pv (And.intro @Va.cs.eq_1 (And.intro @No.settle_pv (And.intro @No.pure_pv (And.intro @No.cells_pv (And.intro @No.cs.eq_1 @No.pv.eq_1)))))))))))))))

theorem plVs_mem : ∀ {l : List Va} {c : Int} {v : Va}, v ∈ (plVs l c).1 → ∃ v0 ∈ l, ∃ c', v = (plV v0 c').1
 | [], c, v, h => by cases h
 | a :: l, c, v, h => by
  rcases List.mem_cons.1 h with rfl | h
  ·exact ⟨a, List.mem_cons_self .., c, rfl⟩
  ·obtain ⟨v0, h1, h2⟩ := plVs_mem h
   exact ⟨v0, List.mem_cons_of_mem _ h1, h2⟩
theorem plVs_nms : ∀ (l : List Va) (c : Int), (plVs l c).1.map Va.name = l.map Va.name
 | [], c => rfl
 | a :: l, c => by
  show a.name :: (plVs l _).1.map Va.name = _
  rw [plVs_nms l]; rfl
theorem plQs_mem : ∀ {l : List Qu} {c : Int} {v : Qu}, v ∈ (plQs l c).1 → ∃ v0 ∈ l, ∃ c', v = (plQ v0 c').1
 | [], c, v, h => by cases h
 | a :: l, c, v, h => by
  rcases List.mem_cons.1 h with rfl | h
  ·exact ⟨a, List.mem_cons_self .., c, rfl⟩
  ·obtain ⟨v0, h1, h2⟩ := plQs_mem h
   exact ⟨v0, List.mem_cons_of_mem _ h1, h2⟩
theorem sum_zero {α : Type} (f : α → Nat) : ∀ (l : List α), (∀ x ∈ l, f x = 0) → (l.map f).sum = 0
 | [], _ => rfl
 | a :: l, h => by
  rw [List.map_cons, List.sum_cons, h a (List.mem_cons_self ..), sum_zero f l (fun x hx => h x (List.mem_cons_of_mem _ hx))]
theorem ch_csx (l : List Int) (kp : List Bool) (i : Nat) (c : Int) : CsX (plE (.mk 7 3 0 chE [] [chA l i, chB l kp i] 0 0) c).1 := by
 rcases chA_cs l i with h | ⟨s, h⟩ <;> rcases chB_cs l kp i with ⟨s', h'⟩ | ⟨s', h'⟩ <;> rw [h, h'] <;> refine ⟨rfl, ?_⟩ <;> exact of_decide_eq_true rfl
theorem csn_ch (l : List Int) (kp : List Bool) : CsN 0 (chP l kp) := by
 have hk : chK l ≤ 12 := by unfold chK; omega
 obtain ⟨c1, hV⟩ : ∃ c, (chP l kp).b.vars = (plVs (chVs (chK l)) c).1 := ⟨_, rfl⟩
 obtain ⟨c2, hQ⟩ : ∃ c, (chP l kp).b.eqs = (plQs (chRw l kp (chK l)) c).1 := ⟨_, rfl⟩
 have hO : ((chP l kp).ins ++ (chP l kp).outs).map Va.name = [⟨#[120]⟩] := rfl
 have hOl : ((chP l kp).ins ++ (chP l kp).outs).length = 1 := rfl
 have hq : ∀ q ∈ (chP l kp).b.eqs, (∃ x, q.lhs = [x] ∧ x ∈ ([⟨#[120]⟩] : List Str) ++ (chP l kp).b.vars.map Va.name) ∧ q.kind = 1 ∧ q.args = [] ∧ q.arms = [] ∧ CsX q.e := by
  intro q hq
  rw [hQ] at hq
  obtain ⟨q0, h0, c', rfl⟩ := plQs_mem hq
  rcases List.mem_cons.1 (show q0 ∈ chQ0 :: (List.range (chK l)).map (chQ l kp) from h0) with rfl | h0
  ·exact ⟨⟨_, rfl, List.mem_cons_self ..⟩, rfl, rfl, rfl, rfl, of_decide_eq_true rfl⟩
  ·obtain ⟨i, hi, rfl⟩ := List.mem_map.1 h0
   refine ⟨⟨chNm i, rfl, ?_⟩, rfl, rfl, rfl, ch_csx l kp i _⟩
   rw [hV, plVs_nms]
   exact List.mem_append_right _ (List.mem_map.2 ⟨chVa (chNm i), List.mem_map.2 ⟨i, hi, rfl⟩, rfl⟩)
 refine ⟨⟨fun v hv => ?_, fun q hqm => ?_⟩, ?_, by omega, by rw [hOl]; omega⟩
 ·rw [hV] at hv
  obtain ⟨v0, h0, c', rfl⟩ := plVs_mem hv
  obtain ⟨i, _, rfl⟩ := List.mem_map.1 (show v0 ∈ (List.range (chK l)).map _ from h0)
  exact Nat.zero_le _
 ·obtain ⟨⟨x, h1, h1'⟩, h2, h3, h4, h5⟩ := hq q hqm
  have hd : dfQ (fun _ _ => []) q = [x] := by unfold dfQ; rw [h4, h1]; rfl
  rw [hO]
  refine ⟨fun y hy => ?_, ⟨[x], by simp, by rw [h1]; simp, fun y hy => by rw [h1] at hy; exact hy, fun a ha => by rw [h4] at ha; cases ha⟩, by rw [h4]; simp, (fun a ha => by rw [h4] at ha; cases ha), .inl ⟨h2, ⟨x, h1⟩, h3, h4, h5⟩⟩
  rw [hd, List.mem_singleton] at hy
  rw [hy]; exact h1'
 ·rw [hOl]
  show 1 + ((chP l kp).b.vars.length + ((chP l kp).b.eqs.map _).sum) ≤ _
  rw [sum_zero _ _ (fun q hqm => by
   obtain ⟨_, _, _, h4, _⟩ := hq q hqm
   show (q.arms.map _).sum = 0
   rw [h4]; rfl), hV, plVs_len, chV_len]
  omega
theorem edge1 : (gOf 0 (chP [17, 17] [])).E 2 2 := .inr ⟨by decide +kernel, .inr (by decide +kernel)⟩
theorem noEdge {a b : Nat} : ¬ (gOf 0 (chP [0] [true])).E a b := by
 intro h
 have e1 : rdL (nmG (gOf 0 (chP [0] [true]))) [0, 1] [(plE (chInt 0) 3).1] = [] := by decide +kernel
 have hl : ∀ {ns : List Str} {e : Ex}, e.reads true [] = [] → (b : Int) ∈ rdL ns [0, 1] [e] → False := fun {ns e} he h => by
  unfold rdL at h
  rw [List.flatMap_cons, List.flatMap_nil, he] at h
  cases h
 rcases h with (h | ⟨_, h | h⟩) | ⟨_, h | h⟩
 ·exact h
 ·exact h
 ·exact hl (by decide +kernel) h
 ·exact h
 ·exact hl (by decide +kernel) h
theorem tg_head {E : Nat → Nat → Prop} {i j : Nat} (h : TG E i j) : ∃ k, E i k := by
 induction h with
 | single h => exact ⟨_, h⟩
 | tail _ _ ih => exact ih
set_option maxHeartbeats 4000000 in
theorem awake_any (m : M) : ACalls Try.prog 5 [] m (fun v m' => v = .v (.bool true) ∧ m' = m) := by
 have hp1 := fun m => program_any [17, 17] (by decide) [] m
 have hp2 := fun m => program_any [0] (by decide) [true] m
 have hc1 := fun m => ccheck_any 0 [chP [17, 17] []] [] .no (fun n hn => by rw [List.mem_singleton] at hn; subst hn; exact csn_ch _ _) m
 have hc2 := fun m => ccheck_any 0 [chP [0] [true]] [] .no (fun n hn => by rw [List.mem_singleton] at hn; subst hn; exact csn_ch _ _) m
 refine ACalls.enter (mu := []) ok_mix Try.func5 rfl (by kernel_rfl) (by kernel_rfl) (by simp only [List.length_cons, List.length_nil, Try.ntmps5]; omega) ?_
 (repeat (first | refine aSeq fun X hX => ?_ | refine aReg ?_; simp -implicitDefEqProofs only [forall_eq, ↓slp, ↓reduceIte, jB, jC, jE, Yh] | apply hX; clear hX X))
 refine callMS (hp1 _) (by simp only [List.map_cons, List.map_nil, PV.settle, PV.settles]) ?_
 rintro v mv ⟨rfl, rfl⟩
 simp -implicitDefEqProofs only [↓slp, slb, ↓reduceIte]
 refine callMS (hc1 _) (by unfold chPv; simp only [List.map_cons, List.map_nil, PV.settle, PV.settles]) ?_
 rintro v mv ⟨r, rfl, hr, rfl⟩
 obtain ⟨x, rfl⟩ : ∃ x, r = some x := by
  rcases hr with ⟨_, h⟩ | ⟨a, g, b, i, hi, _, _, _, _, h⟩
  ·exact absurd ⟨by decide +kernel, .single edge1⟩ (h _ (List.mem_singleton.2 rfl) 2)
  ·exact ⟨_, h⟩
 simp -implicitDefEqProofs only [↓slp, slb, ↓reduceIte, errV]
 (repeat (first | refine aSeq fun X hX => ?_ | refine aReg ?_; simp -implicitDefEqProofs only [forall_eq, ↓slp, ↓reduceIte, jA, jB, jC, jE, Yh] | apply hX; clear hX X))
 refine callMS (hp2 _) (by simp only [List.map_cons, List.map_nil, PV.settle, PV.settles]) ?_
 rintro v mv ⟨rfl, rfl⟩
 simp -implicitDefEqProofs only [↓slp, slb, ↓reduceIte]
 refine callMS (hc2 _) (by unfold chPv; simp only [List.map_cons, List.map_nil, PV.settle, PV.settles]) ?_
 rintro v mv ⟨r, rfl, hr, rfl⟩
 obtain rfl : r = none := by
  rcases hr with ⟨h, _⟩ | ⟨a, g, b, i, hi, hg, _, hb, _, _⟩
  ·exact h
  ·exfalso
   have hg2 : g = gOf 0 (chP [0] [true]) := by
    have : g ∈ [gOf 0 (chP [0] [true])] := by rw [show ([gOf 0 (chP [0] [true])] : List Gs) = a ++ g :: b from hg]; simp
    exact List.mem_singleton.1 this
   obtain ⟨j, hj⟩ := tg_head hb.2
   rw [hg2] at hj
   exact noEdge hj
 simp -implicitDefEqProofs only [↓slp, slb, ↓reduceIte, errV]
 (repeat (first | refine aSeq fun X hX => ?_ | refine aReg ?_; simp -implicitDefEqProofs only [↓slp, ↓reduceIte, jA, Yh] | apply hX; clear hX X))
 refine callE (kind_at10 _ _ _) ?_
 simp -implicitDefEqProofs only [↓slp, ↓reduceIte, jA, Yh]
 (repeat (first | refine aRet ?_ | apply hX; clear hX X))
 simp only [aPost, Try.results5, aRes_n, aRes_t, aRes_c, pack_one, pack_two]
 exact leave_same rfl ⟨rfl, rfl⟩
end Go.Proofs.Ytaealemhegdmpaa
