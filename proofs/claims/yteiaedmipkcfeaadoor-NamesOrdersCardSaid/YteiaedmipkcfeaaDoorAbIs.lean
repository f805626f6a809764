/-
  errors.Is of an At about a kind.
-/
import Derived.Test.YteiaedmipkcfeaaDoorGD
import Derived.Test.YteiaedmipkcfeaaDoorChecked
import Derived.WalkKit
import Derived.LaidEql
import Derived.Stop.Asserts
import Derived.RowKitTokens
set_option linter.unusedVariables false
set_option linter.unusedSimpArgs false
namespace Go.Proofs.YteiaedmipkcfeaaDoor
open Go Go.RowKit Go.Extern.Stop Go.Stop Go.Extern

theorem eql_int {P : Program} {ti tk : TypeId} {ms : Array (String × TypeId)} {i : TypeInfo} {k : IntKind} (a b : Int) (hi : P.underlying ti = some (.interface ms)) (hp : P.underlying tk = some (.int k)) (hinfo : P.info? tk = some i) (hcomp : i.comparable = true) (w : World) :
    (binOp .eql ti (.iface tk (.int k a)) (.iface tk (.int k b))).run P w = .ok (.bool (a == b)) w := by
  have h : ∀ d : Nat, (Op.equalIn (d + 2) ti (.iface tk (.int k a)) (.iface tk (.int k b))).run P w = .ok (a == b) w := fun d => by
    simp [Op.equalIn, run_underlying hi, run_underlying hp, typeInfo, hinfo, hcomp]
  simp only [binOp]
  simp [Op.equal, Op.maxDepth, h 9998]

theorem isTypeOf (v : Value) (w : World) : (Extern.ReflectliteType.typeOf #[.iface 39 v]).run Tryd.prog w = .ok (.iface 165 (.agg #[.pointer (some ⟨1, 39, none⟩)])) w := by kernel_rfl
theorem callTypeOf (v : Value) (w : World) : (callFunc 59 #[.iface 39 v]).run Tryd.prog w = .ok (.value (.iface 165 (.agg #[.pointer (some ⟨1, 39, none⟩)]))) w := by
  rw [@run_callFunc_extern Tryd.prog 59 _ Extern.ReflectliteType.typeOf Tryd.func59 (by kernel_rfl) (by kernel_rfl) (by kernel_rfl) (by kernel_rfl), isTypeOf]
  rfl
theorem callComparable (w : World) : (callFunc 137 #[.agg #[.pointer (some ⟨1, 39, none⟩)]]).run Tryd.prog w = .ok (.value (.bool true)) w := by
  rw [@run_callFunc_extern Tryd.prog 137 _ (Extern.ReflectliteType.method fun t => do Go.Extern.Rtype.noPackHeld "Comparable" t; pure (.bool (← typeInfo t).comparable)) Tryd.func137 (by kernel_rfl) (by kernel_rfl) (by kernel_rfl) (by kernel_rfl)]
  kernel_rfl
theorem isMethodComparable (v : Value) (w : World) : (Go.method 326 165 v "Comparable").run Tryd.prog w = .ok (137, v) w := by kernel_rfl
theorem noIsA (v : Value) (xT : TypeId) (w : World) : (Instr.typeAssert (.iface 94 v) xT 167 true).run Tryd.prog w = .ok (.tuple #[.nilIface, .bool false]) w := run_typeAssert_lacksB Tryd.underlying167 (by kernel_rfl) (by kernel_rfl) v xT w
theorem noIsK (v : Value) (xT : TypeId) (w : World) : (Instr.typeAssert (.iface 39 v) xT 167 true).run Tryd.prog w = .ok (.tuple #[.nilIface, .bool false]) w := run_typeAssert_lacksB Tryd.underlying167 (by kernel_rfl) (by kernel_rfl) v xT w
theorem noUnK (v : Value) (xT : TypeId) (w : World) : (Instr.typeAssert (.iface 39 v) xT 170 true).run Tryd.prog w = .ok (.tuple #[.nilIface, .bool false]) w := run_typeAssert_lacksB Tryd.underlying170 (by kernel_rfl) (by kernel_rfl) v xT w
theorem noUsK (v : Value) (xT : TypeId) (w : World) : (Instr.typeAssert (.iface 39 v) xT 172 true).run Tryd.prog w = .ok (.tuple #[.nilIface, .bool false]) w := run_typeAssert_lacksB Tryd.underlying172 (by kernel_rfl) (by kernel_rfl) v xT w
theorem hasUnA (v : Value) (xT : TypeId) (w : World) : (Instr.typeAssert (.iface 94 v) xT 170 true).run Tryd.prog w = .ok (.tuple #[.iface 94 v, .bool true]) w := run_typeAssert_hasB Tryd.underlying170 (by kernel_rfl) v xT w
theorem isComp : (Tryd.prog.info? 39).map (·.comparable) = some true := by kernel_rfl
theorem methodUnwrap (v : Value) (w : World) : (Go.method 326 94 v "Unwrap").run Tryd.prog w = .ok (131, v) w := by kernel_rfl

set_option maxRecDepth 20000 in
set_option maxHeartbeats 1000000 in
theorem is_at (b o : Nat) (k k' : Int) (w : World) (h1 : w.cell? ⟨b, o + 4, none⟩ = some (.iface 39 (.int .i64 k'))) :
    Calls Tryd.prog 35 #[.iface 94 (.pointer (some ⟨b, o, none⟩)), .iface 39 (.int .i64 k)] w fun e w' => e = .returned (.bool (k' == k)) ∧ w' = w := by
  obtain ⟨i, hi, hcmp⟩ := Option.map_eq_some_iff.1 isComp
  have hT := callTypeOf
  have hC := callComparable
  have mR := isMethodComparable
  have nA := noIsA
  have nK := noIsK
  have uK := noUnK
  have vK := noUsK
  have uA := hasUnA
  have mU := methodUnwrap
  have hty := run_eql_iface_types (P := Tryd.prog) 94 39 (.pointer (some ⟨b, o, none⟩)) (.int .i64 k) Tryd.underlying25 (by decide) w
  have heq := eql_int (P := Tryd.prog) k' k Tryd.underlying25 Tryd.underlying39 hi hcmp w
  go_enter Tryd.func35, Tryd.ntmps35
  go_wp2
  refine wp_loop_rounds 2 ?_
  rw [rounds_succ]
  go_wp2
  rw [rounds_succ]
  go_wp2
  all_goals (
    rename_i hk
    go_ret
    exact ⟨(by rw [hk]; rfl), rfl⟩)
theorem is_any (cells : List PV) (k k' : Int) (m : M) (hc : cells[4]? = some (.ifc 39 (.v (.int .i64 k')))) :
    ACalls Tryd.prog 35 [.ifc 94 (.ep cells), .ifc 39 (.v (.int .i64 k))] m (fun v m' => v = .v (.bool (k' == k)) ∧ m' = m) := by
  refine ⟨by kernel_rfl, fun G w vs hI hl hr => ?_⟩
  obtain ⟨v0, v1, rfl⟩ : ∃ v0 v1, vs = [v0, v1] := by
    match vs, hl with
    | [v0, v1], _ => exact ⟨v0, v1, rfl⟩
  have h0 := hr 0 (by simp) (by simp)
  have h1 := hr 1 (by simp) (by simp)
  simp only [List.getElem_cons_zero, List.getElem_cons_succ] at h0 h1
  obtain ⟨hlt, hc4⟩ := List.getElem?_eq_some_iff.1 hc
  cases h0 with
  | ifc _ _ y h0 =>
    cases h0 with
    | ep _ b off c hcc hp hrr =>
      cases h1 with
      | ifc _ _ y1 h1 =>
        cases h1
        have h4 := hrr 4 hlt
        rw [hc4] at h4
        have hcell := (hcc 4 hlt).1
        generalize c 4 = u at h4 hcell
        cases h4 with
        | ifc _ _ y2 h2 =>
          cases h2
          refine (is_at b off k k' w hcell).mono ?_
          rintro e w' ⟨he, rfl⟩
          exact .inl ⟨_, .v (.bool (k' == k)), m, G, he, ⟨rfl, rfl⟩, .v rfl, hI, Ext.refl _ _⟩

/-- errors.Is of an At about a kind, for the run. -/
def isHook : CallR := fun g args m => if g = 35 then (match args with
  | [PV.ifc t (PV.ep cells), PV.ifc t' (PV.v (Value.int IntKind.i64 k))] => if t = 94 ∧ t' = 39 then (match cells[4]? with
    | some (PV.ifc t2 (PV.v (Value.int IntKind.i64 k'))) => if t2 = 39 then some (.val (.v (.bool (k' == k))) m) else none
    | _ => none) else none
  | _ => none) else none
theorem isHook_ok : CallOk Tryd.prog isHook := by
  intro g args m r h
  unfold isHook at h
  split at h
  · rename_i hg
    subst hg
    split at h
    · split at h
      · rename_i hq
        obtain ⟨rfl, rfl⟩ := hq
        split at h
        · split at h
          · rename_i ht2
            subst ht2
            cases h
            exact is_any _ _ _ m (by assumption)
          · cases h
        · cases h
      · cases h
    · cases h
  · cases h
end Go.Proofs.YteiaedmipkcfeaaDoor
