/-
 Texts that belong together: CsI, CsF, CsO.
-/
-- halved
import Derived.Test.YtaealemhegdmpaaLwA
import Derived.Test.YtaealemhegdmpaaChecked
import Derived.WalkKit
import Derived.LaidEql
import Derived.Stop.Asserts
import Derived.RowKitTokens
import Derived.Test.YtaealemhegdmpaaAbKit
import Derived.Test.YtaealemhegdmpaaExA
import Derived.Test.YtaealemhegdmpaaAbCut
import Derived.Test.YtaealemhegdmpaaCsK
import Derived.Test.YtaealemhegdmpaaCsX
import Derived.Test.YtaealemhegdmpaaCsCv
/-
 errors.Is of an At about a kind.
-/
set_option linter.unusedVariables false
set_option linter.unusedSimpArgs false
namespace Go.Proofs.Ytaealemhegdmpaa
open Go Go.RowKit Go.Extern.Stop Go.Stop Go.Extern

theorem eql_int {P : Program} {ti tk : TypeId} {ms : Array (String × TypeId)} {i : TypeInfo} {k : IntKind} (a b : Int) (hi : P.underlying ti = some (.interface ms)) (hp : P.underlying tk = some (.int k)) (hinfo : P.info? tk = some i) (hcomp : i.comparable = true) (w : World) :
    (binOp .eql ti (.iface tk (.int k a)) (.iface tk (.int k b))).run P w = .ok (.bool (a == b)) w := by
 have h : ∀ d : Nat, (Op.equalIn (d + 2) ti (.iface tk (.int k a)) (.iface tk (.int k b))).run P w = .ok (a == b) w := fun d => by
  simp [Op.equalIn, run_underlying hi, run_underlying hp, typeInfo, hinfo, hcomp]
 simp only [binOp]
 simp [Op.equal, Op.maxDepth, h 9998]

theorem isTypeOf (v : Value) (w : World) : (Extern.ReflectliteType.typeOf #[.iface 56 v]).run Try.prog w = .ok (.iface 146 (.agg #[.pointer (some ⟨0, 56, none⟩)])) w := by kernel_rfl
theorem callTypeOf (v : Value) (w : World) : (callFunc 39 #[.iface 56 v]).run Try.prog w = .ok (.value (.iface 146 (.agg #[.pointer (some ⟨0, 56, none⟩)]))) w := by
 rw [@run_callFunc_extern Try.prog 39 _ Extern.ReflectliteType.typeOf Try.func39 (by kernel_rfl) (by kernel_rfl) (by kernel_rfl) (by kernel_rfl), isTypeOf]
 rfl
theorem callComparable (w : World) : (callFunc 107 #[.agg #[.pointer (some ⟨0, 56, none⟩)]]).run Try.prog w = .ok (.value (.bool true)) w := by
 rw [@run_callFunc_extern Try.prog 107 _ (Extern.ReflectliteType.method fun t => do Go.Extern.Rtype.noPackHeld "Comparable" t; pure (.bool (← typeInfo t).comparable)) Try.func107 (by kernel_rfl) (by kernel_rfl) (by kernel_rfl) (by kernel_rfl)]
 kernel_rfl
theorem isMethodComparable (v : Value) (w : World) : (Go.method 309 146 v "Comparable").run Try.prog w = .ok (107, v) w := by kernel_rfl
theorem noIsA (v : Value) (xT : TypeId) (w : World) : (Instr.typeAssert (.iface 98 v) xT 148 true).run Try.prog w = .ok (.tuple #[.nilIface, .bool false]) w := run_typeAssert_lacksB Try.underlying148 (by kernel_rfl) (by kernel_rfl) v xT w
theorem noIsK (v : Value) (xT : TypeId) (w : World) : (Instr.typeAssert (.iface 56 v) xT 148 true).run Try.prog w = .ok (.tuple #[.nilIface, .bool false]) w := run_typeAssert_lacksB Try.underlying148 (by kernel_rfl) (by kernel_rfl) v xT w
theorem noUnK (v : Value) (xT : TypeId) (w : World) : (Instr.typeAssert (.iface 56 v) xT 151 true).run Try.prog w = .ok (.tuple #[.nilIface, .bool false]) w := run_typeAssert_lacksB Try.underlying151 (by kernel_rfl) (by kernel_rfl) v xT w
theorem noUsK (v : Value) (xT : TypeId) (w : World) : (Instr.typeAssert (.iface 56 v) xT 153 true).run Try.prog w = .ok (.tuple #[.nilIface, .bool false]) w := run_typeAssert_lacksB Try.underlying153 (by kernel_rfl) (by kernel_rfl) v xT w
theorem hasUnA (v : Value) (xT : TypeId) (w : World) : (Instr.typeAssert (.iface 98 v) xT 151 true).run Try.prog w = .ok (.tuple #[.iface 98 v, .bool true]) w := run_typeAssert_hasB Try.underlying151 (by kernel_rfl) v xT w
theorem isComp : (Try.prog.info? 56).map (·.comparable) = some true := by kernel_rfl
theorem methodUnwrap (v : Value) (w : World) : (Go.method 309 98 v "Unwrap").run Try.prog w = .ok (103, v) w := by kernel_rfl

set_option maxRecDepth 20000 in
set_option maxHeartbeats 1000000 in
theorem is_at (b o : Nat) (k k' : Int) (w : World) (h1 : w.cell? ⟨b, o + 4, none⟩ = some (.iface 56 (.int .i64 k'))) :
    Calls Try.prog 21 #[.iface 98 (.pointer (some ⟨b, o, none⟩)), .iface 56 (.int .i64 k)] w fun e w' => e = .returned (.bool (k' == k)) ∧ w' = w := by
 obtain ⟨i, hi, hcmp⟩ := Option.map_eq_some_iff.1 isComp
 have hT := callTypeOf
 have hC := callComparable
 have mR := isMethodComparable
 have nA := noIsA
 have nK := noIsK
 have uK := noUnK
 have vK := noUsK
 have uA := hasUnA
 have mU := methodUnwrap
 have hty := run_eql_iface_types (P := Try.prog) 98 56 (.pointer (some ⟨b, o, none⟩)) (.int .i64 k) Try.underlying25 (by decide) w
 have heq := eql_int (P := Try.prog) k' k Try.underlying25 Try.underlying56 hi hcmp w
 go_enter Try.func21, Try.ntmps21
 go_wp2
 refine wp_loop_rounds 2 ?_
 rw [rounds_succ]
 go_wp2
 rw [rounds_succ]
 go_wp2
 all_goals (
  rename_i hk
  go_ret
  exact ⟨(by rw [hk]; rfl), rfl⟩)
theorem is_any (cells : List PV) (k k' : Int) (m : M) (hc : cells[4]? = some (.ifc 56 (.v (.int .i64 k')))) :
    ACalls Try.prog 21 [.ifc 98 (.ep cells), .ifc 56 (.v (.int .i64 k))] m (fun v m' => v = .v (.bool (k' == k)) ∧ m' = m) := by
 refine ⟨by kernel_rfl, fun G w vs hI hl hr => ?_⟩
 obtain ⟨v0, v1, rfl⟩ : ∃ v0 v1, vs = [v0, v1] := by
  match vs, hl with
  | [v0, v1], _ => exact ⟨v0, v1, rfl⟩
 have h0 := hr 0 (by simp) (by simp)
 have h1 := hr 1 (by simp) (by simp)
 simp only [List.getElem_cons_zero, List.getElem_cons_succ] at h0 h1
 obtain ⟨hlt, hc4⟩ := List.getElem?_eq_some_iff.1 hc
 cases h0 with
 | ifc _ _ y h0 =>
  cases h0 with
  | ep _ b off c hcc hp hrr =>
   cases h1 with
   | ifc _ _ y1 h1 =>
    cases h1
    have h4 := hrr 4 hlt
    rw [hc4] at h4
    have hcell := (hcc 4 hlt).1
    generalize c 4 = u at h4 hcell
    cases h4 with
    | ifc _ _ y2 h2 =>
     cases h2
     refine (is_at b off k k' w hcell).mono ?_
     rintro e w' ⟨he, rfl⟩
     exact .inl ⟨_, .v (.bool (k' == k)), m, G, he, ⟨rfl, rfl⟩, .v rfl, hI, Ext.refl _ _⟩

end Go.Proofs.Ytaealemhegdmpaa

/-
 Faults at a place: they are made; their kind.
-/
set_option linter.unusedVariables false
set_option linter.unusedSimpArgs false
namespace Go.Proofs.Ytaealemhegdmpaa
open Nat renaming reduceEqDiff → jA, reduceAdd → jB, reduceMul → jC, reduceLT → jD, reduceLeDiff → jE, reduceBEq → jF, reduceBNe → jG
open Int renaming reduceLE → jH, reduceLT → jI, reduceToNat → jJ, reduceEq → jK
open Go
set_option maxRecDepth 20000
-- TNAMES: int; uint8; string; bool; error; api.Kind; api.Pos; faults.At; *faults.At; interface {}


/-- A kind, as an error. -/
abbrev pK (k : Int) : PV := .ifc 56 (.v (.int .i64 k))
/-- An At, as an error. -/
abbrev pA (l c : Int) (k : Int) : PV := .ifc 98 (.ep [.v (.int .i64 l), .v (.int .i64 c), .v (.string ⟨#[]⟩), .v (.bool false), pK k])
abbrev pP (l c : Int) : PV := .ag [.v (.int .i64 l), .v (.int .i64 c)]
set_option maxHeartbeats 1000000 in
theorem kind_at10 (l c : Int) (m : M) : ACalls Try.prog 12 [pA l c 10] m (fun v m' => v = pI 10 ∧ m' = m) := by
 refine ACalls.enter (mu := []) ok_mix Try.func12 rfl (by kernel_rfl) (by kernel_rfl) (by simp only [List.length_cons, List.length_nil, Try.ntmps12]; omega) ?_
 (repeat (first | refine aSeq fun X hX => ?_ | refine aBlk ?_ | refine aSkip ?_ | (first | apply aReg | apply aIf); simp -implicitDefEqProofs only [↓slp, ↓reduceIte, reduceCtorEq, Y0] | apply hX; clear hX X))
 obtain ⟨I, hI⟩ : ∃ I : F → M → Prop, ∀ f m', I f m' = (∃ k : Nat, 1 ≤ k ∧ k ≤ 10 ∧ f 0 = pA l c 10 ∧ f 3 = pI k ∧ m' = m) := ⟨_, fun _ _ => rfl⟩
 refine aLoop I (fun f m => 10 - numOf (f 3)) ?_ ?_
 ·rw [hI]; exact ⟨1, by omega, by omega, rfl, rfl, rfl⟩
 intro f m' hrel
 rw [hI] at hrel
 obtain ⟨k, hk1, hk2, f0, f3, rfl⟩ := hrel
 have c1 : decide ((k : Int) ≤ 12) = true := by simp; omega
 have hi : IntKind.i64.wrap ((k : Int) + 1) = ((k + 1 : Nat) : Int) := by rw [wrap64 (by omega)]; omega
 have hme : numOf (f 3) = k := by rw [f3]; exact Int.toNat_natCast k
 (repeat (first | refine aSeq fun X hX => ?_ | refine aSkip ?_ | (first | apply aReg | apply aIf); simp -implicitDefEqProofs only [↓slp, ↓reduceIte, reduceCtorEq, jA, Y0, f0, f3, pI, c1] | apply hX; clear hX X))
 refine callE (is_any _ (k : Int) 10 m' rfl) ?_
 cases c2 : ((10 : Int) == (k : Int)) with
 | true =>
  obtain rfl : k = 10 := by simp at c2; omega
  simp -implicitDefEqProofs only [slb]
  (repeat (first | refine aSeq fun X hX => ?_ | refine aRet ?_; try simp only [slx, ↓reduceIte, jA, reduceCtorEq] | (first | apply aReg | apply aIf); simp -implicitDefEqProofs only [↓slp, slb, ↓reduceIte, reduceCtorEq, jA, f3, pI] | apply hX; clear hX X))
  simp only [aPost, Try.results12, aRes_n, aRes_t, aRes_c, pack_one, pack_two]
  exact leave_same rfl ⟨rfl, rfl⟩
 | false =>
  have hne : k ≠ 10 := by rintro rfl; simp at c2
  simp -implicitDefEqProofs only [slb]
  (repeat (first | refine aSkip ?_ | (first | apply aReg | apply aIf); simp -implicitDefEqProofs only [↓slp, slb, ↓reduceIte, jA, f3, pI, hi] | apply hX; clear hX X))
  rw [hI]
  exact ⟨⟨k + 1, by omega, by omega, f0, rfl, rfl⟩, by omega⟩
set_option maxHeartbeats 1000000 in
theorem new10_any (l c : Int) (m : M) : ACalls Try.prog 15 [.v (.int .i64 10), pP l c] m (fun v m' => v = pA l c 10 ∧ m' = m) := by
 have hk : ((10 : Int) == 0) = false := by decide
 refine ACalls.enter (mu := []) ok_mix Try.func15 rfl (by kernel_rfl) (by kernel_rfl) (by simp only [List.length_cons, List.length_nil, Try.ntmps15]; omega) ?_
 (repeat (first | refine aSeq fun X hX => ?_ | refine aReg ?_; simp -implicitDefEqProofs only [↓slp, ↓reduceIte, reduceCtorEq, Y0, hk] | apply hX; clear hX X))
 refine aIf ?_; simp -implicitDefEqProofs only [slb, ↓reduceIte]
 (repeat (first | refine aSeq fun X hX => ?_ | refine aSkip ?_ | refine aRet ?_ | refine aReg ?_; simp -implicitDefEqProofs only [↓slp, ↓reduceIte, reduceCtorEq, jA, jB, jE, Y0] | apply hX; clear hX X))
 simp only [aPost, Try.results15, aRes_n, aRes_t, aRes_c, pack_one, pack_two]
 exact leave_same rfl ⟨rfl, rfl⟩
end Go.Proofs.Ytaealemhegdmpaa

/-
 causes: a node's graph; Check; Needs.
-/
set_option linter.unusedVariables false
set_option linter.unusedSimpArgs false
namespace Go.Proofs.Ytaealemhegdmpaa
open Nat renaming reduceEqDiff → jA, reduceAdd → jB, reduceMul → jC, reduceLT → jD, reduceLeDiff → jE, reduceBEq → jF, reduceBNe → jG
open Int renaming reduceLE → jH, reduceLT → jI, reduceToNat → jJ, reduceEq → jK
open Go
-- EXX: Qu.settle_pv, Qu.pure_pv, Qu.cells_pv, Qu.cs, No.settle_pv, No.pure_pv, No.cells_pv, No.cs, No.pv.eq_1
set_option maxRecDepth 20000
-- TNAMES: int; uint8; int32; string; bool; []string; []api.Expr; api.Expr; api.Pos; api.Type; api.On; []api.On; api.Var; []api.Var; []int; [][]int; api.Equation; []api.Equation; api.Block; api.Node; []api.Node; api.Enum; []api.Enum; api.Program; [][]api.Var; causes.graph; []causes.vertex; causes.vertex; causes.scope; *causes.graph; error; api.Kind
set_option linter.defProp false
def Y3 := And.intro @slb (And.intro @tfA (And.intro @Ex.settle_pv (And.intro @Ex.pure_pv (And.intro @Ex.cells_pv (And.intro @Ex.cs.eq_1 (And.intro @On.pv.eq_1 (And.intro @Ty.pv.eq_1 (And.intro @Va.settle_pv (And.intro @Va.pure_pv (And.intro @Va.cells_pv (And.intro @Va.cs.eq_1 (And.intro @Qu.settle_pv (And.intro @Qu.pure_pv (And.intro @Qu.cells_pv (And.intro @Qu.cs.eq_1 (And.intro @No.settle_pv (And.intro @No.pure_pv (And.intro @No.cells_pv (And.intro @No.cs.eq_1 @No.pv.eq_1)))))))))))))))))))

/-- A node whose graph can be made. -/
def gOf (d : Nat) (n : No) : Gs := gBk d (gVars (⟨[], fun _ _ => False⟩, []) (n.ins ++ n.outs)).1 (gVars (⟨[], fun _ _ => False⟩, []) (n.ins ++ n.outs)).2 n.b.vars n.b.eqs (fun _ => False)
structure CsN (d : Nat) (n : No) : Prop where
 blk : CsB d ((n.ins ++ n.outs).map Va.name) n.b.vars n.b.eqs
 cnt : (n.ins ++ n.outs).length + cntF d n.b.vars n.b.eqs ≤ 4000000
 dep : d ≤ 10
 ne : 0 < (n.ins ++ n.outs).length
theorem gOf_vs (d : Nat) (n : No) : ∃ ms, (gOf d n).vs = (n.ins ++ n.outs).map (fun v => ⟨v.name, v.line, v.col⟩) ++ ms ∧ ms.length = cntF d n.b.vars n.b.eqs := by
 obtain ⟨h1, h2, h3⟩ := gVars_eq (n.ins ++ n.outs) ⟨[], fun _ _ => False⟩ []
 obtain ⟨ms, e1, e2⟩ := gBk_vs d (gVars (⟨[], fun _ _ => False⟩, []) (n.ins ++ n.outs)).1 (gVars (⟨[], fun _ _ => False⟩, []) (n.ins ++ n.outs)).2 n.b.vars n.b.eqs (fun _ => False)
 exact ⟨ms, by unfold gOf; rw [e1, h1]; rfl, e2⟩
theorem CsN.len {d : Nat} {n : No} (h : CsN d n) : (gOf d n).vs.length ≤ 4000000 := by
 obtain ⟨ms, e1, e2⟩ := gOf_vs d n
 have := h.cnt
 rw [e1, List.length_append, List.length_map]
 omega
theorem CsN.pos {d : Nat} {n : No} (h : CsN d n) : 0 < (gOf d n).vs.length := by
 obtain ⟨ms, e1, e2⟩ := gOf_vs d n
 have := h.ne
 rw [e1, List.length_append, List.length_map]
 omega
theorem gseg {L : List Vm} {c : List PV} (b5 : c.take (L.length * 4) = gcells L) {k : Nat} (h : k < L.length) : (c.drop (k * 4)).take 4 = L[k].cs ∧ k * 4 + 4 ≤ c.length := by
 have hl := congrArg List.length b5
 rw [List.length_take, gcells_len] at hl
 have hc : k * 4 + 4 ≤ c.length := by omega
 refine ⟨List.ext_getElem (by rw [List.length_take, List.length_drop]; show _ = 4; omega) fun j h3 h4 => ?_, hc⟩
 have hj : j < 4 := h4
 have h1 := gcells_at h j hj
 rw [← b5, List.getElem?_take_of_lt (by omega), List.getElem?_eq_getElem (by omega), List.getElem?_eq_getElem h4] at h1
 rw [List.getElem_take, List.getElem_drop]
 exact Option.some.inj h1
theorem gs_new (m : M) : GS m m.nb ⟨[], fun _ _ => False⟩ (m.push [.sl .full []]) :=
 ⟨[], ⟨(BaseR.refl m).push _, Nat.le_refl _, by rw [push_nb]; omega, .inl ⟨rfl, by rw [M.get_push, if_pos rfl]⟩, fun i h => by simp at h, fun i j h => by simp at h⟩, ⟨rfl, fun i h => by simp at h, fun i h => by simp at h, fun i b h => h.elim⟩⟩
set_option maxHeartbeats 4000000 in
theorem of_any (d : Nat) (n : No) (h : CsN d n) (m : M) : ACalls Try.prog 13 [n.pv] m (fun v m' => v = .bp m.nb 0 ∧ GS m m.nb (gOf d n) m' ∧ Stp m m') := by
 obtain ⟨hb, hc, hd, _⟩ := h
 obtain ⟨hv1, hv2, hv3⟩ := gVars_eq (n.ins ++ n.outs) ⟨[], fun _ _ => False⟩ []
 have hcv := concatV_any .full [n.ins, n.outs] m (by simp at hc ⊢; omega)
 have hf2 : [n.ins, n.outs].flatten = n.ins ++ n.outs := by simp
 rw [hf2] at hcv
 have hcv1 := fun m => concatV_any .full [n.ins, n.outs] m (by simp at hc ⊢; omega)
 rw [hf2] at hcv1
 unfold gOf
 generalize hV : n.ins ++ n.outs = V at *
 refine ACalls.enter (mu := [8]) ok_mix Try.func13 rfl (by kernel_rfl) (by kernel_rfl) (by simp only [List.length_cons, List.length_nil, Try.ntmps13]; omega) ?_
 (repeat (first | refine aSeq fun X hX => ?_ | refine aReg ?_; simp -implicitDefEqProofs only [forall_eq, ↓slp, ↓reduceIte, reduceCtorEq, jA, jB, jC, jE, jF, Y3] | apply hX; clear hX X))
 refine callM (hcv1 _) ?_
 rintro v mc ⟨rfl, rfl⟩
 simp -implicitDefEqProofs only [↓slp, ↓reduceIte, jF, Y3]
 (repeat (first | refine aBlk ?_ | apply hX; clear hX X | intro hlen; unfold maxLen at hlen))
 obtain ⟨I, hI⟩ : ∃ I : F → M → Prop, ∀ f m', I f m' = (∃ (k : Nat) (o : Own), k ≤ V.length ∧ f 1 = .ep n.cs ∧ f 3 = .bp m.nb 0 ∧ f 4 = .sl o ((gVars (⟨[], fun _ _ => False⟩, []) (V.take k)).2.map pN) ∧ f 14 = .sl .no (V.map Va.pv) ∧ f 15 = pI V.length ∧ f 16 = pI k ∧ GS m m.nb (gVars (⟨[], fun _ _ => False⟩, []) (V.take k)).1 m' ∧ Stp m m') := ⟨_, fun _ _ => rfl⟩
 refine aLoop I (fun f m => V.length - numOf (f 16)) ?_ ?_
 ·rw [hI]; exact ⟨0, .full, by omega, rfl, rfl, rfl, rfl, rfl, rfl, gs_new m, Stp.push m (fun x hx => by rw [List.mem_singleton] at hx; subst hx; rfl)⟩
 intro f m' hrel
 rw [hI] at hrel
 obtain ⟨k, o, hk, f1, f3, f4, f14, f15, f16, hg1, hst⟩ := hrel
 cases c1 : decide ((k : Int) < (V.length : Int)) with
 | true =>
  have hlt : k < V.length := by simpa using c1
  have g0 := getD_map Va.pv V k hlt
  have hi : IntKind.i64.wrap ((k : Int) + 1) = ((k + 1 : Nat) : Int) := by rw [wrap64 (by omega)]; omega
  have hme : numOf (f 16) = k := by rw [f16]; exact Int.toNat_natCast k
  obtain ⟨hw1, hw2, hw3⟩ := gVars_eq (V.take k) ⟨[], fun _ _ => False⟩ []
  have hnx := gVars_take (p := (⟨[], fun _ _ => False⟩, [])) hlt
  have hp := put_S hg1 (by rw [hw1]; simp; omega) (see := (gVars (⟨[], fun _ _ => False⟩, []) (V.take k)).2) (by rw [hw3]; simp; omega) V[k]
  (repeat (first | refine aSeq fun X hX => ?_ | refine aSkip ?_ | (first | apply aReg | apply aIf); simp -implicitDefEqProofs only [↓slp, ↓reduceIte, reduceCtorEq, jA, jB, jE, jF, Y3, f3, f4, f14, f15, f16, pI, c1, g0] | apply hX; clear hX X | apply And.intro; focus omega))
  refine callMS hp (by simp only [List.map_cons, List.map_nil, PV.settle, PV.settles]; rfl) ?_
  rintro v mc ⟨rfl, q1, q2⟩
  simp -implicitDefEqProofs only [↓slp, slb, ↓reduceIte, jF]
  (repeat (first | refine aReg ?_; simp -implicitDefEqProofs only [↓slp, slb, ↓reduceIte, jA, jF, f16, pI, hi] | apply hX; clear hX X))
  rw [hI]
  exact ⟨⟨k + 1, .no, hlt, f1, f3, by rw [hnx]; rfl, f14, f15, rfl, by rw [hnx]; exact q1, hst.trans q2⟩, by omega⟩
 | false =>
  obtain rfl : k = V.length := by simp at c1; omega
  rw [List.take_length] at f4 hg1
  obtain ⟨p1, hp1⟩ : ∃ p1, gVars (⟨[], fun _ _ => False⟩, []) V = p1 := ⟨_, rfl⟩
  rw [hp1] at hv1 hv3 f4 hg1
  have hlen : p1.1.vs.length = V.length := by rw [hv1]; simp
  have hsee : p1.2 = List.range V.length := by rw [hv3]; simp
  have he : EnvG p1.1 p1.2 (V.map Va.name) := by
   refine ⟨fun i hi => ?_, ?_⟩
   ·rw [hsee, List.mem_range] at hi; omega
   ·unfold seeNm nmG
    rw [hv1, hsee]
    refine List.ext_getElem (by simp) fun j h3 h4 => ?_
    have h6 : j < V.length := by simpa using h3
    simp [h6, List.getD]
  have hbk := csblock_any d (V.map Va.name) n.b.vars n.b.eqs hb m m.nb p1.1 p1.2 [] (fun _ => False) m' hg1 he (by omega) (by rw [hsee, List.length_range]; omega) (fun k hk => by cases hk) (fun x => by simp) (by simp; omega)
  (repeat (first | refine aSeq fun X hX => ?_ | refine aExit ?_; try simp only [slx, ↓reduceIte, jA, reduceCtorEq] | (first | apply aReg | apply aIf); simp -implicitDefEqProofs only [↓slp, ↓reduceIte, reduceCtorEq, jA, jB, jE, jF, Y3, f1, f3, f4, f15, f16, pI, c1, No.cs] | apply hX; clear hX X | clear hX X; apply hX; clear hX X))
  refine callMS hbk (by simp only [List.map_cons, List.map_nil, PV.settle, PV.settles]; rfl) ?_
  rintro v mc ⟨rfl, q1, q2⟩
  (repeat (first | refine aSeq fun X hX => ?_ | refine aRet ?_ | refine aReg ?_; simp -implicitDefEqProofs only [↓slp, slb, ↓reduceIte, jA, jF, f3] | apply hX; clear hX X))
  simp only [aPost, Try.results13, aRes_n, aRes_t, aRes_c, pack_one, pack_two]
  simp -implicitDefEqProofs only [slb, ↓reduceIte]
  have hst' := hst.trans q2
  refine leave_stp hst' ?_ ⟨rfl, by rw [hp1]; exact q1, hst'⟩
  have := q1.base.nb
  obtain ⟨L, h1, _⟩ := q1
  simpa [PV.settle, PV.within] using h1.glt
/-- A vertex that needs itself; the first one of some graphs. -/
def Bad (g : Gs) (i : Nat) : Prop := i < g.vs.length ∧ TG g.E i i
def FstB (gs : List Gs) (r : Option Vx) : Prop := (r = none ∧ ∀ g ∈ gs, ∀ i, ¬ Bad g i) ∨ ∃ (a : List Gs) (g : Gs) (b : List Gs) (i : Nat) (h : i < g.vs.length), gs = a ++ g :: b ∧ (∀ g' ∈ a, ∀ i, ¬ Bad g' i) ∧ Bad g i ∧ (∀ j, j < i → ¬ Bad g j) ∧ r = some g.vs[i]
def errV : Option Vx → PV
 | none => .v .nilIface
 | some x => pA x.line x.col 10
set_option maxHeartbeats 4000000 in
theorem ccheck_any (d : Nat) (ns : List No) (E : List PV) (o : Own) (hn : ∀ n ∈ ns, CsN d n) (m : M) : ACalls Try.prog 6 [.ag [.sl o E, .sl .no (ns.map No.pv)]] m (fun v m' => ∃ r, v = errV r ∧ FstB (ns.map (gOf d)) r ∧ m' = m) := by
 refine ACalls.enter (mu := []) ok_mix Try.func6 rfl (by kernel_rfl) (by kernel_rfl) (by simp only [List.length_cons, List.length_nil, Try.ntmps6]; omega) ?_
 (repeat (first | refine aSeq fun X hX => ?_ | refine aBlk ?_ | refine aReg ?_; simp -implicitDefEqProofs only [↓slp, ↓reduceIte, reduceCtorEq, jA, jB, jE, Y3] | apply hX; clear hX X | intro hlen; unfold maxLen at hlen))
 obtain ⟨I, hI⟩ : ∃ I : F → M → Prop, ∀ f m', I f m' = (∃ k : Nat, k ≤ ns.length ∧ f 9 = .sl .no (ns.map No.pv) ∧ f 10 = pI ns.length ∧ f 11 = pI k ∧ BaseR m m' ∧ ∀ g ∈ (ns.take k).map (gOf d), ∀ i, ¬ Bad g i) := ⟨_, fun _ _ => rfl⟩
 refine aLoop I (fun f m => ns.length - numOf (f 11)) ?_ ?_
 ·rw [hI]; exact ⟨0, by omega, rfl, rfl, rfl, BaseR.refl m, fun g hg => by simp at hg⟩
 intro f m' hrel
 rw [hI] at hrel
 obtain ⟨k, hk, f9, f10, f11, hB, hgd⟩ := hrel
 cases c1 : decide ((k : Int) < (ns.length : Int)) with
 | false =>
  have hnf : ofV Value.nilIface = .v .nilIface := rfl
  (repeat (first | refine aSeq fun X hX => ?_ | (first | refine aExit ?_ | refine aRet ?_); try simp only [slx, ↓reduceIte, jA, reduceCtorEq] | (first | apply aReg | apply aIf); simp -implicitDefEqProofs only [↓slp, slb, ↓reduceIte, f10, f11, pI, c1, hnf] | apply hX; clear hX X | clear hX X; apply hX; clear hX X))
  simp only [aPost, Try.results6, aRes_n, aRes_t, aRes_c, pack_one, pack_two]
  simp -implicitDefEqProofs only [slb, ↓reduceIte]
  obtain rfl : k = ns.length := by simp at c1; omega
  rw [List.take_length] at hgd
  exact leave_plain hB.boxes hB.toks rfl ⟨none, rfl, .inl ⟨rfl, hgd⟩, rfl⟩
 | true =>
  have hlt : k < ns.length := by simpa using c1
  have g0 := getD_map No.pv ns k hlt
  have hi : IntKind.i64.wrap ((k : Int) + 1) = ((k + 1 : Nat) : Int) := by rw [wrap64 (by omega)]; omega
  have hme : numOf (f 11) = k := by rw [f11]; exact Int.toNat_natCast k
  have hcn := hn _ (List.getElem_mem hlt)
  have hsplit : ns.map (gOf d) = (ns.take k).map (gOf d) ++ gOf d ns[k] :: (ns.drop (k + 1)).map (gOf d) := by
   rw [← List.map_cons, ← List.map_append, ← List.drop_eq_getElem_cons hlt, List.take_append_drop]
  have hnxt : (ns.take (k + 1)).map (gOf d) = (ns.take k).map (gOf d) ++ [gOf d ns[k]] := by rw [List.take_succ_eq_append_getElem hlt, List.map_append]; rfl
  have hof := of_any d ns[k] hcn m'
  rw [No.pv.eq_1] at hof
  have hlen := hcn.len
  have hpos := hcn.pos
  generalize gOf d ns[k] = g at *
  (repeat (first | refine aSeq fun X hX => ?_ | refine aSkip ?_ | (first | apply aReg | apply aIf); simp -implicitDefEqProofs only [↓slp, ↓reduceIte, reduceCtorEq, jA, jB, jE, jF, Y3, f9, f10, f11, pI, c1, g0] | apply hX; clear hX X | apply And.intro; focus omega))
  refine callM hof ?_
  rintro v mc ⟨rfl, q1, q2⟩
  simp -implicitDefEqProofs only [↓slp, slb, ↓reduceIte]
  have hgl := q1.base
  have q1' := q1
  obtain ⟨L, h1, h2⟩ := q1'
  have hvl := h2.len
  have hB2 : BaseR m mc := hB.trans hgl
  rcases h1.box with ⟨h0, b1⟩ | ⟨lid, cap, c, b0, b0', b1, b2, b3, b4, b5, b6⟩
  ·have h00 : g.vs.length = 0 := by rw [hvl, h0]; rfl
   omega
  rw [← hvl] at b1
  (repeat (first | refine aSeq fun X hX => ?_ | refine aBlk ?_ | refine aReg ?_; simp -implicitDefEqProofs only [↓slp, ↓reduceIte, reduceCtorEq, jB, Y3, b1, exists_eq'] | apply hX; clear hX X))
  obtain ⟨J, hJ⟩ : ∃ J : F → M → Prop, ∀ f m2, J f m2 = (∃ j : Nat, j ≤ g.vs.length ∧ f 5 = .bp m'.nb 0 ∧ f 9 = .sl .no (ns.map No.pv) ∧ f 10 = pI ns.length ∧ f 11 = pI k ∧ f 20 = .gs lid g.vs.length cap ∧ f 21 = pI g.vs.length ∧ f 22 = pI j ∧ mc = m2 ∧ ∀ i, i < j → ¬ Bad g i) := ⟨_, fun _ _ => rfl⟩
  refine aLoop J (fun f m => g.vs.length - numOf (f 22)) ?_ ?_
  ·rw [hJ]; exact ⟨0, by omega, rfl, f9, f10, f11, rfl, rfl, rfl, rfl, fun i hi => by omega⟩
  clear f9 f10 f11
  intro f m2 hrel
  rw [hJ] at hrel
  obtain ⟨j, hj, f5, f9, f10, f11, f20, f21, f22, rfl, hgj⟩ := hrel
  cases c2 : decide ((j : Int) < (g.vs.length : Int)) with
  | true =>
   have hltj : j < g.vs.length := by simpa using c2
   have hij : IntKind.i64.wrap ((j : Int) + 1) = ((j + 1 : Nat) : Int) := by rw [wrap64 (by omega)]; omega
   have hmej : numOf (f 22) = j := by rw [f22]; exact Int.toNat_natCast j
   obtain ⟨s1, s2⟩ := gseg b5 (k := j) (by omega)
   have hr := reaches_S q1 hlen (i := j) (j := j) hltj
   (repeat (first | refine aSeq fun X hX => ?_ | refine aSkip ?_ | (first | apply aReg | apply aIf); simp -implicitDefEqProofs only [↓slp, ↓reduceIte, reduceCtorEq, jA, jB, jF, Y3, f5, f20, f21, f22, pI, c2, b2, s1, s2, Vm.cs, hltj] | apply hX; clear hX X))
   refine callM hr ?_
   rintro v md ⟨b, rfl, hb, rfl⟩
   cases b with
   | true =>
    have hvx : g.vs[j] = L[j].vx := by
     have := h2.vs
     simp only [← this, List.getElem_map]
    simp -implicitDefEqProofs only [slb, pB]
    (repeat (first | refine aSeq fun X hX => ?_ | (first | apply aReg | apply aIf); simp -implicitDefEqProofs only [↓slp, ↓reduceIte, reduceCtorEq, jA, jB, jE, Y3] | apply hX; clear hX X))
    refine callM (new10_any L[j].line L[j].col _) ?_
    rintro v md ⟨rfl, rfl⟩
    simp -implicitDefEqProofs only [↓slp, slb, ↓reduceIte]
    (repeat (first | refine aRet ?_; try simp only [slx, ↓reduceIte, jA, reduceCtorEq] | apply hX; clear hX X))
    simp only [aPost, Try.results6, aRes_n, aRes_t, aRes_c, pack_one, pack_two]
    exact leave_plain hB2.boxes hB2.toks rfl ⟨some g.vs[j], by rw [hvx]; rfl, .inr ⟨_, g, _, j, hltj, hsplit, hgd, ⟨hltj, hb.1 rfl⟩, hgj, rfl⟩, rfl⟩
   | false =>
    simp -implicitDefEqProofs only [slb, pB]
    (repeat (first | refine aSkip ?_ | (first | apply aReg | apply aIf); simp -implicitDefEqProofs only [↓slp, slb, ↓reduceIte, jA, f22, pI, hij] | apply hX; clear hX X))
    rw [hJ]
    exact ⟨⟨j + 1, hltj, f5, f9, f10, f11, f20, f21, rfl, rfl, fun i hi hbd => by
     rcases Nat.lt_or_ge i j with h | h
     ·exact hgj i h hbd
     ·obtain rfl : i = j := by omega
      exact absurd (hb.2 hbd.2) (by simp)⟩, by omega⟩
  | false =>
   (repeat (first | refine aSeq fun X hX => ?_ | refine aExit ?_; try simp only [slx, ↓reduceIte, jA, reduceCtorEq] | (first | apply aReg | apply aIf); simp -implicitDefEqProofs only [↓slp, slb, ↓reduceIte, jA, f11, hi, f21, f22, pI, c2] | apply hX; clear hX X | clear hX X; apply hX; clear hX X))
   rw [hI]
   obtain rfl : j = g.vs.length := by simp at c2; omega
   exact ⟨⟨k + 1, hlt, f9, f10, rfl, hB2, fun g' hg' => by
    rw [hnxt] at hg'
    rcases List.mem_append.1 hg' with h | h
    ·exact hgd g' h
    ·rw [List.mem_singleton] at h
     subst h
     exact fun i hbd => hgj i hbd.1 hbd⟩, by omega⟩
end Go.Proofs.Ytaealemhegdmpaa
