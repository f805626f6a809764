/-
  Texts that belong together: AbIs, AbAs, AbAs2, AbIs2, AbAs3.
-/
import Derived.Test.YtijdhfjdnndkmaaDoorAbRun5
import Derived.Test.YtijdhfjdnndkmaaDoorChecked
import Derived.WalkKit
import Derived.LaidEql
import Derived.Stop.Asserts
import Derived.RowKitTokens
import Derived.OneCell
/-
  errors.Is of an At about a kind.
-/
set_option linter.unusedVariables false
set_option linter.unusedSimpArgs false
namespace Go.Proofs.YtijdhfjdnndkmaaDoor
open Go Go.RowKit Go.Extern.Stop Go.Stop Go.Extern

theorem eql_int {P : Program} {ti tk : TypeId} {ms : Array (String × TypeId)} {i : TypeInfo} {k : IntKind} (a b : Int) (hi : P.underlying ti = some (.interface ms)) (hp : P.underlying tk = some (.int k)) (hinfo : P.info? tk = some i) (hcomp : i.comparable = true) (w : World) :
    (binOp .eql ti (.iface tk (.int k a)) (.iface tk (.int k b))).run P w = .ok (.bool (a == b)) w := by
  have h : ∀ d : Nat, (Op.equalIn (d + 2) ti (.iface tk (.int k a)) (.iface tk (.int k b))).run P w = .ok (a == b) w := fun d => by
    simp [Op.equalIn, run_underlying hi, run_underlying hp, typeInfo, hinfo, hcomp]
  simp only [binOp]
  simp [Op.equal, Op.maxDepth, h 9998]

theorem isTypeOf (v : Value) (w : World) : (Extern.ReflectliteType.typeOf #[.iface 31 v]).run Tryd.prog w = .ok (.iface 74 (.agg #[.pointer (some ⟨2, 31, none⟩)])) w := by kernel_rfl
theorem callTypeOf (v : Value) (w : World) : (callFunc 22 #[.iface 31 v]).run Tryd.prog w = .ok (.value (.iface 74 (.agg #[.pointer (some ⟨2, 31, none⟩)]))) w := by
  rw [@run_callFunc_extern Tryd.prog 22 _ Extern.ReflectliteType.typeOf Tryd.func22 (by kernel_rfl) (by kernel_rfl) (by kernel_rfl) (by kernel_rfl), isTypeOf]
  rfl
theorem callComparable (w : World) : (callFunc 68 #[.agg #[.pointer (some ⟨2, 31, none⟩)]]).run Tryd.prog w = .ok (.value (.bool true)) w := by
  rw [@run_callFunc_extern Tryd.prog 68 _ (Extern.ReflectliteType.method fun t => do Go.Extern.Rtype.noPackHeld "Comparable" t; pure (.bool (← typeInfo t).comparable)) Tryd.func68 (by kernel_rfl) (by kernel_rfl) (by kernel_rfl) (by kernel_rfl)]
  kernel_rfl
theorem isMethodComparable (v : Value) (w : World) : (Go.method 223 74 v "Comparable").run Tryd.prog w = .ok (68, v) w := by kernel_rfl
theorem noIsA (v : Value) (xT : TypeId) (w : World) : (Instr.typeAssert (.iface 49 v) xT 76 true).run Tryd.prog w = .ok (.tuple #[.nilIface, .bool false]) w := run_typeAssert_lacksB Tryd.underlying76 (by kernel_rfl) (by kernel_rfl) v xT w
theorem noIsK (v : Value) (xT : TypeId) (w : World) : (Instr.typeAssert (.iface 31 v) xT 76 true).run Tryd.prog w = .ok (.tuple #[.nilIface, .bool false]) w := run_typeAssert_lacksB Tryd.underlying76 (by kernel_rfl) (by kernel_rfl) v xT w
theorem noUnK (v : Value) (xT : TypeId) (w : World) : (Instr.typeAssert (.iface 31 v) xT 79 true).run Tryd.prog w = .ok (.tuple #[.nilIface, .bool false]) w := run_typeAssert_lacksB Tryd.underlying79 (by kernel_rfl) (by kernel_rfl) v xT w
theorem noUsK (v : Value) (xT : TypeId) (w : World) : (Instr.typeAssert (.iface 31 v) xT 81 true).run Tryd.prog w = .ok (.tuple #[.nilIface, .bool false]) w := run_typeAssert_lacksB Tryd.underlying81 (by kernel_rfl) (by kernel_rfl) v xT w
theorem hasUnA (v : Value) (xT : TypeId) (w : World) : (Instr.typeAssert (.iface 49 v) xT 79 true).run Tryd.prog w = .ok (.tuple #[.iface 49 v, .bool true]) w := run_typeAssert_hasB Tryd.underlying79 (by kernel_rfl) v xT w
theorem isComp : (Tryd.prog.info? 31).map (·.comparable) = some true := by kernel_rfl
theorem methodUnwrap (v : Value) (w : World) : (Go.method 223 49 v "Unwrap").run Tryd.prog w = .ok (62, v) w := by kernel_rfl

set_option maxRecDepth 20000 in
set_option maxHeartbeats 1000000 in
theorem is_at (b o : Nat) (k k' : Int) (w : World) (h1 : w.cell? ⟨b, o + 4, none⟩ = some (.iface 31 (.int .i64 k'))) :
    Calls Tryd.prog 14 #[.iface 49 (.pointer (some ⟨b, o, none⟩)), .iface 31 (.int .i64 k)] w fun e w' => e = .returned (.bool (k' == k)) ∧ w' = w := by
  obtain ⟨i, hi, hcmp⟩ := Option.map_eq_some_iff.1 isComp
  have hT := callTypeOf
  have hC := callComparable
  have mR := isMethodComparable
  have nA := noIsA
  have nK := noIsK
  have uK := noUnK
  have vK := noUsK
  have uA := hasUnA
  have mU := methodUnwrap
  have hty := run_eql_iface_types (P := Tryd.prog) 49 31 (.pointer (some ⟨b, o, none⟩)) (.int .i64 k) Tryd.underlying27 (by decide) w
  have heq := eql_int (P := Tryd.prog) k' k Tryd.underlying27 Tryd.underlying31 hi hcmp w
  go_enter Tryd.func14, Tryd.ntmps14
  go_wp2
  refine wp_loop_rounds 2 ?_
  rw [rounds_succ]
  go_wp2
  rw [rounds_succ]
  go_wp2
  all_goals (
    rename_i hk
    go_ret
    exact ⟨(by rw [hk]; rfl), rfl⟩)
theorem is_any (cells : List PV) (k k' : Int) (m : M) (hc : cells[4]? = some (.ifc 31 (.v (.int .i64 k')))) :
    ACalls Tryd.prog 14 [.ifc 49 (.ep cells), .ifc 31 (.v (.int .i64 k))] m (fun v m' => v = .v (.bool (k' == k)) ∧ m' = m) := by
  refine ⟨by kernel_rfl, fun G w vs hI hl hr => ?_⟩
  obtain ⟨v0, v1, rfl⟩ : ∃ v0 v1, vs = [v0, v1] := by
    match vs, hl with
    | [v0, v1], _ => exact ⟨v0, v1, rfl⟩
  have h0 := hr 0 (by simp) (by simp)
  have h1 := hr 1 (by simp) (by simp)
  simp only [List.getElem_cons_zero, List.getElem_cons_succ] at h0 h1
  obtain ⟨hlt, hc4⟩ := List.getElem?_eq_some_iff.1 hc
  cases h0 with
  | ifc _ _ y h0 =>
    cases h0 with
    | ep _ b off c hcc hp hrr =>
      cases h1 with
      | ifc _ _ y1 h1 =>
        cases h1
        have h4 := hrr 4 hlt
        rw [hc4] at h4
        have hcell := (hcc 4 hlt).1
        generalize c 4 = u at h4 hcell
        cases h4 with
        | ifc _ _ y2 h2 =>
          cases h2
          refine (is_at b off k k' w hcell).mono ?_
          rintro e w' ⟨he, rfl⟩
          exact .inl ⟨_, .v (.bool (k' == k)), m, G, he, ⟨rfl, rfl⟩, .v rfl, hI, Ext.refl _ _⟩

/-- errors.Is of an At about a kind, for the run. -/
def isHook : CallR := fun g args m => if g = 14 then (match args with
  | [PV.ifc t (PV.ep cells), PV.ifc t' (PV.v (Value.int IntKind.i64 k))] => if t = 49 ∧ t' = 31 then (match cells[4]? with
    | some (PV.ifc t2 (PV.v (Value.int IntKind.i64 k'))) => if t2 = 31 then some (.val (.v (.bool (k' == k))) m) else none
    | _ => none) else none
  | _ => none) else none
theorem isHook_ok : CallOk Tryd.prog isHook := by
  intro g args m r h
  unfold isHook at h
  split at h
  · rename_i hg
    subst hg
    split at h
    · split at h
      · rename_i hq
        obtain ⟨rfl, rfl⟩ := hq
        split at h
        · split at h
          · rename_i ht2
            subst ht2
            cases h
            exact is_any _ _ _ m (by assumption)
          · cases h
        · cases h
      · cases h
    · cases h
  · cases h
end Go.Proofs.YtijdhfjdnndkmaaDoor

/-
  errors.As of an At, its target a pointer to an At: it is told, and the target is laid.
-/
set_option linter.unusedVariables false
set_option linter.unusedSimpArgs false
namespace Go.Proofs.YtijdhfjdnndkmaaDoor
open Go Go.RowKit Go.Extern.Stop Go.Stop Go.Extern

theorem as_nil (t : Value) (w : World) :
    Calls Tryd.prog 15 #[.nilIface, t] w fun e w' => e = .returned (.bool false) ∧ w' = w := by
  go_enter Tryd.func15, Tryd.ntmps15
  go_wp2
  go_ret
  exact ⟨rfl, rfl⟩

theorem asf_valueOf27 (t : Addr) (w : World) : (ReflectliteValue.unpack (.iface 51 (.pointer (some t)))).run Tryd.prog w
    = .ok (.agg #[.pointer (some ⟨2, 51, none⟩), .pointer (some ⟨w.heap.size, 0, none⟩), .int .u64 150]) (w.alloc (.cells #[.pointer (some t)] 51)) := by kernel_rfl
theorem asf_type27 (a : Addr) (w : World) : (ReflectliteValue.methodAny (ReflectliteValue.valueError "reflectlite.Value.Type" 0) (fun t _ _ _ => ReflectliteType.toType t) #[.agg #[.pointer (some ⟨2, 51, none⟩), .pointer (some a), .int .u64 150]]).run Tryd.prog w
    = .ok (.iface 74 (.agg #[.pointer (some ⟨2, 51, none⟩)])) w := by kernel_rfl
theorem asf_methodKind (h : Value) (w : World) : (Go.method 223 74 (.agg #[h]) "Kind").run Tryd.prog w = .ok (57, h) w := by kernel_rfl
theorem asf_kind27 (w : World) : ((ReflectliteType.abiMethod fun t => (fun a : Nat => Value.int IntKind.u8 (a : Int)) <$> Rtype.kind t) #[.pointer (some ⟨2, 51, none⟩)]).run Tryd.prog w = .ok (.int .u8 22) w := by kernel_rfl
theorem asf_kind25 (w : World) : ((ReflectliteType.abiMethod fun t => (fun a : Nat => Value.int IntKind.u8 (a : Int)) <$> Rtype.kind t) #[.pointer (some ⟨2, 49, none⟩)]).run Tryd.prog w = .ok (.int .u8 22) w := by kernel_rfl

theorem rlm (z : Sem Value) (f : TypeId → Addr → Nat → Nat → Sem Value) (v : Value) :
    ReflectliteValue.method z f #[v] = (do match ← ReflectliteValue.parts v with | none => z | some (t, a, fl) => f t a fl (fl % 32)) := rfl
theorem asf_parts27 (a : Addr) (w : World) : (ReflectliteValue.parts (.agg #[.pointer (some ⟨2, 51, none⟩), .pointer (some a), .int .u64 150])).run Tryd.prog w = .ok (some (51, a, 150)) w := by kernel_rfl
theorem asf_isNil27 (a p : Addr) (W : World) (ha : W.cell? a = some (.pointer (some p))) :
    (ReflectliteValue.method (ReflectliteValue.valueError "reflectlite.Value.IsNil" 0) ReflectliteValue.isNil #[.agg #[.pointer (some ⟨2, 51, none⟩), .pointer (some a), .int .u64 150]]).run Tryd.prog W = .ok (.bool false) W := by
  rw [rlm]
  simp only [Sem.run_bind, asf_parts27, Result.andThen]
  simp [ReflectliteValue.isNil, loadVar, isAgg, underlying, Tryd.underlying51, ha, Result.andThen]

theorem asf_methodElem (h : Value) (w : World) : (Go.method 223 74 (.agg #[h]) "Elem").run Tryd.prog w = .ok (69, .agg #[h]) w := by kernel_rfl
theorem asf_methodImplements (h : Value) (w : World) : (Go.method 223 74 (.agg #[h]) "Implements").run Tryd.prog w = .ok (70, .agg #[h]) w := by kernel_rfl
theorem asf_methodAssignableTo (h : Value) (w : World) : (Go.method 223 74 (.agg #[h]) "AssignableTo").run Tryd.prog w = .ok (67, .agg #[h]) w := by kernel_rfl
theorem asf_elem27 (w : World) : (ReflectliteType.method ReflectliteType.elem #[.agg #[.pointer (some ⟨2, 51, none⟩)]]).run Tryd.prog w = .ok (.iface 74 (.agg #[.pointer (some ⟨2, 49, none⟩)])) w := by kernel_rfl
theorem asf_implements25 (w : World) : (ReflectliteType.relation "Implements" ReflectliteType.implements_ #[.agg #[.pointer (some ⟨2, 49, none⟩)], .iface 74 (.agg #[.pointer (some ⟨2, 27, none⟩)])]).run Tryd.prog w = .ok (.bool true) w := by kernel_rfl
theorem asf_typeOf25 (v : Value) (w : World) : (ReflectliteType.typeOf #[.iface 49 v]).run Tryd.prog w = .ok (.iface 74 (.agg #[.pointer (some ⟨2, 49, none⟩)])) w := by kernel_rfl
theorem asf_assignable25 (w : World) : (ReflectliteType.relation "AssignableTo" ReflectliteType.assignableTo #[.agg #[.pointer (some ⟨2, 49, none⟩)], .iface 74 (.agg #[.pointer (some ⟨2, 49, none⟩)])]).run Tryd.prog w = .ok (.bool true) w := by kernel_rfl
theorem asf_valueOf25 (e : Addr) (w : World) : (ReflectliteValue.unpack (.iface 49 (.pointer (some e)))).run Tryd.prog w
    = .ok (.agg #[.pointer (some ⟨2, 49, none⟩), .pointer (some ⟨w.heap.size, 0, none⟩), .int .u64 150]) (w.alloc (.cells #[.pointer (some e)] 49)) := by kernel_rfl

theorem asf_elemOf27 (w : World) : (Rtype.elem? 51).run Tryd.prog w = .ok (some 49) w := by kernel_rfl
theorem asf_mk25 (p : Addr) (w : World) : (ReflectliteValue.mk 49 p ReflectliteValue.flagAddr).run Tryd.prog w = .ok (.agg #[.pointer (some ⟨2, 49, none⟩), .pointer (some p), .int .u64 406]) w := by kernel_rfl
theorem asf_elemV27 (a p : Addr) (W : World) (ha : W.cell? a = some (.pointer (some p))) :
    (ReflectliteValue.method (ReflectliteValue.valueError "reflectlite.Value.Elem" 0) ReflectliteValue.elem #[.agg #[.pointer (some ⟨2, 51, none⟩), .pointer (some a), .int .u64 150]]).run Tryd.prog W
      = .ok (.agg #[.pointer (some ⟨2, 49, none⟩), .pointer (some p), .int .u64 406]) W := by
  rw [rlm]
  simp only [Sem.run_bind, asf_parts27, Result.andThen]
  simp [ReflectliteValue.elem, loadVar, isAgg, underlying, Tryd.underlying51, ha, Result.andThen, asf_elemOf27, asf_mk25]
theorem rls (v x : Value) : ReflectliteValue.set #[v, x] = (do
    let (some (dst, a, fl), some (src, b, _)) := (← ReflectliteValue.parts v, ← ReflectliteValue.parts x)
      | unsupported (.noEntry "extern/(internal/reflectlite.Value).Set.zeroValue")
    if fl / ReflectliteValue.flagAddr % 2 == 0 then unsupported (.noEntry "extern/(internal/reflectlite.Value).Set.unaddressable")
    let val ← loadVar src b
    if ← Rtype.directlyAssignable dst src then storeVar dst a val
    else if ← Rtype.implements dst src then
      if (← Rtype.kind src) == 20 then
        match val with
        | .nilIface => unsupported (.noEntry "extern/reflectlite: a nil value of one interface type handed on as a value of another")
        | _ => storeVar dst a val
      else storeVar dst a (.iface src val)
    else panicString ("reflectlite.Set: value of type " ++ (← Rtype.spelt src) ++ " is not assignable to type " ++ (← Rtype.spelt dst))
    pure (.tuple #[])) := rfl
theorem asf_parts25a (a : Addr) (w : World) : (ReflectliteValue.parts (.agg #[.pointer (some ⟨2, 49, none⟩), .pointer (some a), .int .u64 406])).run Tryd.prog w = .ok (some (49, a, 406)) w := by kernel_rfl
theorem asf_parts25 (a : Addr) (w : World) : (ReflectliteValue.parts (.agg #[.pointer (some ⟨2, 49, none⟩), .pointer (some a), .int .u64 150])).run Tryd.prog w = .ok (some (49, a, 150)) w := by kernel_rfl
theorem asf_direct25 (w : World) : (Rtype.directlyAssignable 49 49).run Tryd.prog w = .ok true w := by kernel_rfl
theorem asf_size25 (w : World) : (sizeOf 49).run Tryd.prog w = .ok 1 w := by kernel_rfl
theorem asf_set25 (ta b e : Addr) (old : Value) (W : World) (hb : W.cell? b = some (.pointer (some e))) (ht : W.cell? ta = some old) (hf : W.frozen? ta = false) :
    (ReflectliteValue.set #[.agg #[.pointer (some ⟨2, 49, none⟩), .pointer (some ta), .int .u64 406], .agg #[.pointer (some ⟨2, 49, none⟩), .pointer (some b), .int .u64 150]]).run Tryd.prog W
      = .ok (.tuple #[]) (W.setCell ta (.pointer (some e))) := by
  rw [rls]
  simp only [Sem.run_bind, asf_parts25a, asf_parts25, Result.andThen]
  simp [ReflectliteValue.flagAddr, loadVar, isAgg, underlying, Tryd.underlying49, hb, Result.andThen, asf_direct25, storeVar, Value.cells, storeCells, Addr.add]
  rw [run_store Tryd.prog W ta _ _ (by rfl)]
  simp [ht, hf]

set_option maxHeartbeats 4000000 in
theorem as_hit (e t : Addr) (old : Value) (w : World) (hg : w.cell? ⟨0, 0, none⟩ = some (.iface 74 (.agg #[.pointer (some ⟨2, 27, none⟩)]))) (ht0 : w.cell? t = some old) (hf0 : w.frozen? t = false) :
    Calls Tryd.prog 15 #[.iface 49 (.pointer (some e)), .iface 51 (.pointer (some t))] w fun ev w' => ev = .returned (.bool true) ∧ w' = ((((w.alloc (.cells #[.pointer (some t)] 51)).alloc (.cells #[.pointer (some ⟨2, 51, none⟩), .pointer (some ⟨w.heap.size, 0, none⟩), .int .u64 150] 62)).alloc (.cells #[.pointer (some ⟨2, 51, none⟩), .pointer (some ⟨w.heap.size, 0, none⟩), .int .u64 150] 62)).alloc (.cells #[.pointer (some e)] 49)).setCell t (.pointer (some e)) := by
  have h6 := @run_callFunc_extern Tryd.prog 24 _ (fun args => ReflectliteValue.unpack (args.getD 0 (.tuple #[]))) Tryd.func24 (by kernel_rfl) (by kernel_rfl) (by kernel_rfl) (by kernel_rfl)
  have h7 := @run_callFunc_extern Tryd.prog 25 _ (ReflectliteValue.methodAny (ReflectliteValue.valueError "reflectlite.Value.Type" 0) (fun t _ _ _ => ReflectliteType.toType t)) Tryd.func25 (by kernel_rfl) (by kernel_rfl) (by kernel_rfl) (by kernel_rfl)
  have h8 := @run_callFunc_extern Tryd.prog 26 _ (ReflectliteValue.method (ReflectliteValue.valueError "reflectlite.Value.IsNil" 0) ReflectliteValue.isNil) Tryd.func26 (by kernel_rfl) (by kernel_rfl) (by kernel_rfl) (by kernel_rfl)
  have h27 := @run_callFunc_extern Tryd.prog 57 _ (ReflectliteType.abiMethod fun t => do pure (.int .u8 (← Rtype.kind t))) Tryd.func57 (by kernel_rfl) (by kernel_rfl) (by kernel_rfl) (by kernel_rfl)
  have h37 := @run_callFunc_extern Tryd.prog 69 _ (ReflectliteType.method ReflectliteType.elem) Tryd.func69 (by kernel_rfl) (by kernel_rfl) (by kernel_rfl) (by kernel_rfl)
  have h38 := @run_callFunc_extern Tryd.prog 70 _ (ReflectliteType.relation "Implements" ReflectliteType.implements_) Tryd.func70 (by kernel_rfl) (by kernel_rfl) (by kernel_rfl) (by kernel_rfl)
  have h10 := @run_callFunc_extern Tryd.prog 22 _ ReflectliteType.typeOf Tryd.func22 (by kernel_rfl) (by kernel_rfl) (by kernel_rfl) (by kernel_rfl)
  have h35 := @run_callFunc_extern Tryd.prog 67 _ (ReflectliteType.relation "AssignableTo" ReflectliteType.assignableTo) Tryd.func67 (by kernel_rfl) (by kernel_rfl) (by kernel_rfl) (by kernel_rfl)
  have h11 := @run_callFunc_extern Tryd.prog 32 _ (ReflectliteValue.method (ReflectliteValue.valueError "reflectlite.Value.Elem" 0) ReflectliteValue.elem) Tryd.func32 (by kernel_rfl) (by kernel_rfl) (by kernel_rfl) (by kernel_rfl)
  have h12 := @run_callFunc_extern Tryd.prog 33 _ ReflectliteValue.set Tryd.func33 (by kernel_rfl) (by kernel_rfl) (by kernel_rfl) (by kernel_rfl)
  have tO := asf_typeOf25
  have mA := asf_methodAssignableTo
  have a25 := asf_assignable25
  have v25 := asf_valueOf25
  have f6 := asf_valueOf27
  have f7 := asf_type27
  have mK := asf_methodKind
  have mE := asf_methodElem
  have mI := asf_methodImplements
  have k27 := asf_kind27
  have k25 := asf_kind25
  have e27 := asf_elem27
  have i25 := asf_implements25
  have n8 := asf_isNil27 ⟨w.heap.size, 0, none⟩ t ((w.alloc (.cells #[.pointer (some t)] 51)).alloc (.cells #[.pointer (some ⟨2, 51, none⟩), .pointer (some ⟨w.heap.size, 0, none⟩), .int .u64 150] 62)) (by simp)
  have hlt : 0 < w.heap.size := by
    rcases Nat.eq_zero_or_pos w.heap.size with h0 | h
    · simp [World.cell?, h0] at hg
    · exact h
  have hg2 : ((w.alloc (.cells #[.pointer (some t)] 51)).alloc (.cells #[.pointer (some ⟨2, 51, none⟩), .pointer (some ⟨w.heap.size, 0, none⟩), .int .u64 150] 62)).cell? ⟨0, 0, none⟩ = some (.iface 74 (.agg #[.pointer (some ⟨2, 27, none⟩)])) := by
    rw [World.cell?_alloc_lt _ _ ⟨0, 0, none⟩ (by simp), World.cell?_alloc_lt _ _ ⟨0, 0, none⟩ hlt]; exact hg
  have htl : t.block < w.heap.size := by
    rcases Nat.lt_or_ge t.block w.heap.size with h | h
    · exact h
    · simp [World.cell?, Array.getElem?_eq_none h] at ht0
  have el := asf_elemV27 ⟨w.heap.size, 0, none⟩ t (((w.alloc (.cells #[.pointer (some t)] 51)).alloc (.cells #[.pointer (some ⟨2, 51, none⟩), .pointer (some ⟨w.heap.size, 0, none⟩), .int .u64 150] 62)).alloc (.cells #[.pointer (some ⟨2, 51, none⟩), .pointer (some ⟨w.heap.size, 0, none⟩), .int .u64 150] 62)) (by rw [World.cell?_alloc_lt _ _ ⟨w.heap.size, 0, none⟩ (by simp; omega)]; simp)
  have st := asf_set25 t ⟨w.heap.size + 1 + 1 + 1, 0, none⟩ e old ((((w.alloc (.cells #[.pointer (some t)] 51)).alloc (.cells #[.pointer (some ⟨2, 51, none⟩), .pointer (some ⟨w.heap.size, 0, none⟩), .int .u64 150] 62)).alloc (.cells #[.pointer (some ⟨2, 51, none⟩), .pointer (some ⟨w.heap.size, 0, none⟩), .int .u64 150] 62)).alloc (.cells #[.pointer (some e)] 49))
    (by rw [World.cell?_alloc_at _ _ _ _ (by simp)]; rfl)
    (by rw [World.cell?_alloc_lt _ _ t (by simp; omega), World.cell?_alloc_lt _ _ t (by simp; omega), World.cell?_alloc_lt _ _ t (by simp; omega), World.cell?_alloc_lt _ _ t htl]; exact ht0)
    (by rw [World.frozen?_alloc_old _ _ t (by simp; omega), World.frozen?_alloc_old _ _ t (by simp; omega), World.frozen?_alloc_old _ _ t (by simp; omega), World.frozen?_alloc_old _ _ t (Nat.ne_of_lt htl)]; exact hf0)
  go_enter Tryd.func15, Tryd.ntmps15
  go_wp2
  refine wp_loop_rounds 1 ?_
  rw [rounds_succ]
  go_wp2
  go_ret
  exact ⟨rfl, rfl⟩
end Go.Proofs.YtijdhfjdnndkmaaDoor

/-
  errors.As of an At as a contract, and for the run.
-/
set_option linter.unusedVariables false
set_option linter.unusedSimpArgs false
namespace Go.Proofs.YtijdhfjdnndkmaaDoor
open Go Go.RowKit

theorem setCell_rowed (w : World) (b o : Nat) (v : Value) : Rowed w (w.setCell ⟨b, o, none⟩ v) b := setCells_rowed b [v] o w
/-- A new block that nothing names. -/
theorem Inv.pushed {G : Ghost} {m : M} {w : World} (hI : Inv G m w) (o : Obj) : ∃ G', Inv G' m (w.alloc o) ∧ Ext G w G' (w.alloc o) ∧ G'.nb = G.nb ∧ G'.box = G.box ∧ G'.mp = G.mp := by
  obtain ⟨h1, h2⟩ := hI.push (Pushed.alloc w o) (fun _ => False)
  exact ⟨_, h2, h1, rfl, rfl, rfl⟩
set_option maxHeartbeats 1000000 in
theorem as_any (cells : List PV) (m : M) (id : Nat) (x : PV) (hid : m.get id = some [x]) :
    ACalls Tryd.prog 15 [.ifc 49 (.ep cells), .ifc 51 (.bp id 0)] m (fun v m' => v = .v (.bool true) ∧ m' = m.upd id [.ep cells]) := by
  refine ⟨by kernel_rfl, fun G w vs hI hl hr => ?_⟩
  obtain ⟨v0, v1, rfl⟩ : ∃ v0 v1, vs = [v0, v1] := by
    match vs, hl with
    | [v0, v1], _ => exact ⟨v0, v1, rfl⟩
  have h0 := hr 0 (by simp) (by simp)
  have h1 := hr 1 (by simp) (by simp)
  simp only [List.getElem_cons_zero, List.getElem_cons_succ] at h0 h1
  obtain ⟨y0, rfl, hep⟩ : ∃ y0, v0 = .iface 49 y0 ∧ Rep G w (.ep cells) y0 := by
    cases h0 with
    | ifc _ _ y h => exact ⟨y, rfl, h⟩
  obtain ⟨ad, rfl⟩ : ∃ ad, y0 = .pointer (some ad) := by
    obtain ⟨b, off, c, rfl, _⟩ := ep_inv hep
    exact ⟨_, rfl⟩
  obtain ⟨rfl, hm, hnb⟩ : v1 = .iface 51 (.pointer (some ⟨G.box id, 0, none⟩)) ∧ G.mp id = false ∧ id < G.nb := by
    cases h1 with
    | ifc _ _ y h =>
      cases h with
      | bp _ _ q1 q2 => exact ⟨rfl, q2, q1⟩
  obtain ⟨cs, e, k1, k2, k3, k4, k5⟩ := hI.boxC hid hm
  obtain ⟨u, rfl⟩ := List.length_eq_one_iff.1 (k2.symm.trans rfl)
  have ht : w.cell? ⟨G.box id, 0, none⟩ = some u := by simp [World.cell?, k1]
  have hf : w.frozen? ⟨G.box id, 0, none⟩ = false := by simp [World.frozen?, k1]
  have hg : w.cell? ⟨0, 0, none⟩ = some (.iface 74 (.agg #[.pointer (some ⟨2, 27, none⟩)])) := by
    obtain ⟨u0, e1, e2⟩ := (hI.lay (0, fun v => v = .iface 74 (.agg #[.pointer (some ⟨2, 27, none⟩)])) (by simp only [laidC]; exact List.mem_cons_self)).1
    rw [e1]
    exact congrArg some e2
  refine (as_hit ad ⟨G.box id, 0, none⟩ u w hg ht hf).mono ?_
  rintro ev w' ⟨rfl, rfl⟩
  obtain ⟨G1, i1, e1, a1, b1, c1⟩ := hI.pushed (.cells #[.pointer (some ⟨G.box id, 0, none⟩)] 51)
  obtain ⟨G2, i2, e2, a2, b2, c2⟩ := i1.pushed (.cells #[.pointer (some ⟨2, 51, none⟩), .pointer (some ⟨w.heap.size, 0, none⟩), .int .u64 150] 62)
  obtain ⟨G3, i3, e3, a3, b3, c3⟩ := i2.pushed (.cells #[.pointer (some ⟨2, 51, none⟩), .pointer (some ⟨w.heap.size, 0, none⟩), .int .u64 150] 62)
  obtain ⟨G4, i4, e4, a4, b4, c4⟩ := i3.pushed (.cells #[.pointer (some ad)] 49)
  have hE := ((e1.trans e2).trans e3).trans e4
  have hbx : G4.box id = G.box id := by rw [b4, b3, b2, b1]
  have hmp : G4.mp id = false := by rw [c4, c3, c2, c1]; exact hm
  have k1' : ∀ {w : World} (o : Obj), w.heap[G.box id]? = some (.cells #[u] e (0, 0)) → (w.alloc o).heap[G.box id]? = some (.cells #[u] e (0, 0)) := fun {w} o h =>
    ((Pushed.alloc w o).old (Array.getElem?_eq_some_iff.1 h).1).trans h
  have hb5 := one_setCell (u := .pointer (some ad)) (k1' (.cells #[.pointer (some ad)] 49) (k1' (.cells #[.pointer (some ⟨2, 51, none⟩), .pointer (some ⟨w.heap.size, 0, none⟩), .int .u64 150] 62) (k1' (.cells #[.pointer (some ⟨2, 51, none⟩), .pointer (some ⟨w.heap.size, 0, none⟩), .int .u64 150] 62) (k1' (.cells #[.pointer (some ⟨G.box id, 0, none⟩)] 51) k1))))
  have hrow := setCell_rowed ((((w.alloc (.cells #[.pointer (some ⟨G.box id, 0, none⟩)] 51)).alloc (.cells #[.pointer (some ⟨2, 51, none⟩), .pointer (some ⟨w.heap.size, 0, none⟩), .int .u64 150] 62)).alloc (.cells #[.pointer (some ⟨2, 51, none⟩), .pointer (some ⟨w.heap.size, 0, none⟩), .int .u64 150] 62)).alloc (.cells #[.pointer (some ad)] 49)) (G4.box id) 0 (.pointer (some ad))
  obtain ⟨hE5, hI5⟩ := i4.store (c' := [.ep cells]) hid hmp hrow [.pointer (some ad)] e (by rw [hbx]; exact hb5) rfl (fun j q1 q2 => by
    obtain rfl : j = 0 := by simp at q1; omega
    exact hep.mono hE) (fun v hv => by
    obtain rfl := List.mem_singleton.1 hv
    rfl)
  rw [hbx] at hE5 hI5
  exact .inl ⟨_, .v (.bool true), _, _, rfl, ⟨rfl, rfl⟩, .v rfl, hI5, hE.trans hE5⟩

/-- errors.As of an At, for the run. -/
def asHook (next : CallR) : CallR := fun g args m => if g = 15 then (match args with
  | [PV.ifc t (PV.ep cells), PV.ifc t' (PV.bp id 0)] => if t = 49 ∧ t' = 51 then (match m.get id with
    | some [_] => some (.val (.v (.bool true)) (m.upd id [.ep cells]))
    | _ => none) else none
  | _ => none) else next g args m
theorem asHook_ok {next : CallR} (hn : CallOk Tryd.prog next) : CallOk Tryd.prog (asHook next) := by
  intro g args m r h
  unfold asHook at h
  split at h
  · rename_i hg
    subst hg
    split at h
    · split at h
      · rename_i hq
        obtain ⟨rfl, rfl⟩ := hq
        split at h
        · rename_i x hx
          cases h
          exact as_any _ m _ _ hx
        · cases h
      · cases h
    · cases h
  · exact hn _ _ _ _ h
end Go.Proofs.YtijdhfjdnndkmaaDoor

/-
  errors.Is about a kind: of a kind, of an At within an At, of an At of nothing; errors.As of a kind.
-/
set_option linter.unusedVariables false
set_option linter.unusedSimpArgs false
namespace Go.Proofs.YtijdhfjdnndkmaaDoor
open Go Go.RowKit Go.Extern.Stop Go.Stop Go.Extern

set_option maxRecDepth 20000 in
set_option maxHeartbeats 1000000 in
theorem is_kd (k k' : Int) (w : World) :
    Calls Tryd.prog 14 #[.iface 31 (.int .i64 k'), .iface 31 (.int .i64 k)] w fun e w' => e = .returned (.bool (k' == k)) ∧ w' = w := by
  obtain ⟨i, hi, hcmp⟩ := Option.map_eq_some_iff.1 isComp
  have hT := callTypeOf
  have hC := callComparable
  have mR := isMethodComparable
  have nK := noIsK
  have uK := noUnK
  have vK := noUsK
  have heq := eql_int (P := Tryd.prog) k' k Tryd.underlying27 Tryd.underlying31 hi hcmp w
  go_enter Tryd.func14, Tryd.ntmps14
  go_wp2
  refine wp_loop_rounds 1 ?_
  rw [rounds_succ]
  go_wp2
  all_goals (
    rename_i hk
    go_ret
    exact ⟨(by rw [hk]; rfl), rfl⟩)
set_option maxRecDepth 20000 in
set_option maxHeartbeats 1000000 in
theorem is_nil (b o : Nat) (k : Int) (w : World) (h1 : w.cell? ⟨b, o + 4, none⟩ = some .nilIface) :
    Calls Tryd.prog 14 #[.iface 49 (.pointer (some ⟨b, o, none⟩)), .iface 31 (.int .i64 k)] w fun e w' => e = .returned (.bool false) ∧ w' = w := by
  have hT := callTypeOf
  have hC := callComparable
  have mR := isMethodComparable
  have nA := noIsA
  have uA := hasUnA
  have mU := methodUnwrap
  have hty := run_eql_iface_types (P := Tryd.prog) 49 31 (.pointer (some ⟨b, o, none⟩)) (.int .i64 k) Tryd.underlying27 (by decide) w
  go_enter Tryd.func14, Tryd.ntmps14
  go_wp2
  refine wp_loop_rounds 1 ?_
  rw [rounds_succ]
  go_wp2
  go_ret
  exact ⟨rfl, rfl⟩
set_option maxRecDepth 20000 in
set_option maxHeartbeats 1000000 in
theorem is_at2 (b o b' o' : Nat) (k k' : Int) (w : World) (h1 : w.cell? ⟨b, o + 4, none⟩ = some (.iface 49 (.pointer (some ⟨b', o', none⟩)))) (h2 : w.cell? ⟨b', o' + 4, none⟩ = some (.iface 31 (.int .i64 k'))) :
    Calls Tryd.prog 14 #[.iface 49 (.pointer (some ⟨b, o, none⟩)), .iface 31 (.int .i64 k)] w fun e w' => e = .returned (.bool (k' == k)) ∧ w' = w := by
  obtain ⟨i, hi, hcmp⟩ := Option.map_eq_some_iff.1 isComp
  have hT := callTypeOf
  have hC := callComparable
  have mR := isMethodComparable
  have nA := noIsA
  have nK := noIsK
  have uK := noUnK
  have vK := noUsK
  have uA := hasUnA
  have mU := methodUnwrap
  have hty := run_eql_iface_types (P := Tryd.prog) 49 31 (.pointer (some ⟨b, o, none⟩)) (.int .i64 k) Tryd.underlying27 (by decide) w
  have hty2 := run_eql_iface_types (P := Tryd.prog) 49 31 (.pointer (some ⟨b', o', none⟩)) (.int .i64 k) Tryd.underlying27 (by decide) w
  have heq := eql_int (P := Tryd.prog) k' k Tryd.underlying27 Tryd.underlying31 hi hcmp w
  go_enter Tryd.func14, Tryd.ntmps14
  go_wp2
  refine wp_loop_rounds 3 ?_
  rw [rounds_succ]
  go_wp2
  rw [rounds_succ]
  go_wp2
  rw [rounds_succ]
  go_wp2
  all_goals (
    rename_i hk
    go_ret
    exact ⟨(by rw [hk]; rfl), rfl⟩)

theorem two_args {vs : List Value} (hl : 2 = vs.length) : ∃ v0 v1, vs = [v0, v1] := by
  match vs, hl with
  | [v0, v1], _ => exact ⟨v0, v1, rfl⟩
theorem kd_any (k k' : Int) (m : M) : ACalls Tryd.prog 14 [.ifc 31 (.v (.int .i64 k')), .ifc 31 (.v (.int .i64 k))] m (fun v m' => v = .v (.bool (k' == k)) ∧ m' = m) := by
  refine ⟨by kernel_rfl, fun G w vs hI hl hr => ?_⟩
  obtain ⟨v0, v1, rfl⟩ := two_args hl
  have h0 := hr 0 (by simp) (by simp)
  have h1 := hr 1 (by simp) (by simp)
  simp only [List.getElem_cons_zero, List.getElem_cons_succ] at h0 h1
  cases h0 with
  | ifc _ _ y h0 =>
    cases h0
    cases h1 with
    | ifc _ _ y1 h1 =>
      cases h1
      refine (is_kd k k' w).mono ?_
      rintro e w' ⟨he, rfl⟩
      exact .inl ⟨_, .v (.bool (k' == k)), m, G, he, ⟨rfl, rfl⟩, .v rfl, hI, Ext.refl _ _⟩
theorem isnil_any (cells : List PV) (k : Int) (m : M) (hc : cells[4]? = some (.v .nilIface)) :
    ACalls Tryd.prog 14 [.ifc 49 (.ep cells), .ifc 31 (.v (.int .i64 k))] m (fun v m' => v = .v (.bool false) ∧ m' = m) := by
  refine ⟨by kernel_rfl, fun G w vs hI hl hr => ?_⟩
  obtain ⟨v0, v1, rfl⟩ := two_args hl
  have h0 := hr 0 (by simp) (by simp)
  have h1 := hr 1 (by simp) (by simp)
  simp only [List.getElem_cons_zero, List.getElem_cons_succ] at h0 h1
  obtain ⟨hlt, hc4⟩ := List.getElem?_eq_some_iff.1 hc
  cases h0 with
  | ifc _ _ y h0 =>
    cases h0 with
    | ep _ b off c hcc hp hrr =>
      cases h1 with
      | ifc _ _ y1 h1 =>
        cases h1
        have h4 := hrr 4 hlt
        rw [hc4] at h4
        have hcell := (hcc 4 hlt).1
        generalize c 4 = u at h4 hcell
        cases h4
        refine (is_nil b off k w hcell).mono ?_
        rintro e w' ⟨he, rfl⟩
        exact .inl ⟨_, .v (.bool false), m, G, he, ⟨rfl, rfl⟩, .v rfl, hI, Ext.refl _ _⟩
theorem is2_any (cells cells' : List PV) (k k' : Int) (m : M) (hc : cells[4]? = some (.ifc 49 (.ep cells'))) (hc' : cells'[4]? = some (.ifc 31 (.v (.int .i64 k')))) :
    ACalls Tryd.prog 14 [.ifc 49 (.ep cells), .ifc 31 (.v (.int .i64 k))] m (fun v m' => v = .v (.bool (k' == k)) ∧ m' = m) := by
  refine ⟨by kernel_rfl, fun G w vs hI hl hr => ?_⟩
  obtain ⟨v0, v1, rfl⟩ := two_args hl
  have h0 := hr 0 (by simp) (by simp)
  have h1 := hr 1 (by simp) (by simp)
  simp only [List.getElem_cons_zero, List.getElem_cons_succ] at h0 h1
  obtain ⟨hlt, hc4⟩ := List.getElem?_eq_some_iff.1 hc
  obtain ⟨hlt', hc4'⟩ := List.getElem?_eq_some_iff.1 hc'
  cases h0 with
  | ifc _ _ y h0 =>
    cases h0 with
    | ep _ b off c hcc hp hrr =>
      cases h1 with
      | ifc _ _ y1 h1 =>
        cases h1
        have h4 := hrr 4 hlt
        rw [hc4] at h4
        have hcell := (hcc 4 hlt).1
        generalize c 4 = u at h4 hcell
        cases h4 with
        | ifc _ _ y2 h2 =>
          cases h2 with
          | ep _ b' off' c' hcc' hp' hrr' =>
            have h5 := hrr' 4 hlt'
            rw [hc4'] at h5
            have hcell' := (hcc' 4 hlt').1
            generalize c' 4 = u' at h5 hcell'
            cases h5 with
            | ifc _ _ y3 h3 =>
              cases h3
              refine (is_at2 b off b' off' k k' w hcell hcell').mono ?_
              rintro e w' ⟨he, rfl⟩
              exact .inl ⟨_, .v (.bool (k' == k)), m, G, he, ⟨rfl, rfl⟩, .v rfl, hI, Ext.refl _ _⟩

/-- What errors.Is answers of an error that is known, about a kind. -/
def isF : PV → Option (Option Int)
  | PV.ifc t (PV.ep cells) => if t = 49 then (match cells[4]? with
    | some (PV.ifc t2 (PV.v (Value.int IntKind.i64 k'))) => if t2 = 31 then some (some k') else none
    | some (PV.v Value.nilIface) => some none
    | some (PV.ifc t2 (PV.ep cells')) => if t2 = 49 then (match cells'[4]? with
      | some (PV.ifc t3 (PV.v (Value.int IntKind.i64 k'))) => if t3 = 31 then some (some k') else none
      | _ => none) else none
    | _ => none) else none
  | PV.ifc t (PV.v (Value.int IntKind.i64 k')) => if t = 31 then some (some k') else none
  | _ => none
def isE (o : Option Int) (k : Int) : Bool := match o with
  | some k' => k' == k
  | none => false
theorem isF_any (x : PV) (o : Option Int) (h : isF x = some o) (k : Int) (m : M) : ACalls Tryd.prog 14 [x, .ifc 31 (.v (.int .i64 k))] m (fun v m' => v = .v (.bool (isE o k)) ∧ m' = m) := by
  unfold isF at h
  split at h
  · split at h
    · rename_i ht
      subst ht
      split at h
      · split at h
        · rename_i ht2
          subst ht2
          cases h
          exact is_any _ _ _ m (by assumption)
        · cases h
      · cases h
        exact isnil_any _ _ m (by assumption)
      · split at h
        · rename_i ht2
          subst ht2
          split at h
          · split at h
            · rename_i ht3
              subst ht3
              cases h
              exact is2_any _ _ _ _ m (by assumption) (by assumption)
            · cases h
          · cases h
        · cases h
      · cases h
    · cases h
  · split at h
    · rename_i ht
      subst ht
      cases h
      exact kd_any _ _ m
    · cases h
  · cases h
def isHook2 : CallR := fun g args m => if g = 14 then (match args with
  | [x, PV.ifc t' (PV.v (Value.int IntKind.i64 k))] => if t' = 31 then (match isF x with
    | some o => some (.val (.v (.bool (isE o k))) m)
    | none => none) else none
  | _ => none) else none
theorem isHook2_ok : CallOk Tryd.prog isHook2 := by
  intro g args m r h
  unfold isHook2 at h
  split at h
  · rename_i hg
    subst hg
    split at h
    · split at h
      · rename_i ht
        subst ht
        split at h
        · rename_i o ho
          cases h
          exact isF_any _ _ ho _ m
        · cases h
      · cases h
    · cases h
  · cases h
end Go.Proofs.YtijdhfjdnndkmaaDoor

/-
  errors.As of a kind, its target a pointer to an At: it is none.
-/
set_option linter.unusedVariables false
set_option linter.unusedSimpArgs false
namespace Go.Proofs.YtijdhfjdnndkmaaDoor
open Go Go.RowKit Go.Extern.Stop Go.Stop Go.Extern

theorem asf_typeOfK (v : Value) (w : World) : (ReflectliteType.typeOf #[.iface 31 v]).run Tryd.prog w = .ok (.iface 74 (.agg #[.pointer (some ⟨2, 31, none⟩)])) w := by kernel_rfl
theorem asf_assignableK (w : World) : (ReflectliteType.relation "AssignableTo" ReflectliteType.assignableTo #[.agg #[.pointer (some ⟨2, 31, none⟩)], .iface 74 (.agg #[.pointer (some ⟨2, 49, none⟩)])]).run Tryd.prog w = .ok (.bool false) w := by kernel_rfl
theorem noAsK (v : Value) (xT : TypeId) (w : World) : (Instr.typeAssert (.iface 31 v) xT 86 true).run Tryd.prog w = .ok (.tuple #[.nilIface, .bool false]) w := run_typeAssert_lacksB Tryd.underlying86 (by kernel_rfl) (by kernel_rfl) v xT w
theorem noUnK' (v : Value) (xT : TypeId) (w : World) : (Instr.typeAssert (.iface 31 v) xT 79 true).run Tryd.prog w = .ok (.tuple #[.nilIface, .bool false]) w := run_typeAssert_lacksB Tryd.underlying79 (by kernel_rfl) (by kernel_rfl) v xT w
theorem noUsK' (v : Value) (xT : TypeId) (w : World) : (Instr.typeAssert (.iface 31 v) xT 81 true).run Tryd.prog w = .ok (.tuple #[.nilIface, .bool false]) w := run_typeAssert_lacksB Tryd.underlying81 (by kernel_rfl) (by kernel_rfl) v xT w

set_option maxRecDepth 20000 in
set_option maxHeartbeats 4000000 in
theorem as_miss (k : Int) (t : Addr) (old : Value) (w : World) (hg : w.cell? ⟨0, 0, none⟩ = some (.iface 74 (.agg #[.pointer (some ⟨2, 27, none⟩)]))) (ht0 : w.cell? t = some old) :
    Calls Tryd.prog 15 #[.iface 31 (.int .i64 k), .iface 51 (.pointer (some t))] w fun ev w' => ev = .returned (.bool false) ∧ w' = (((w.alloc (.cells #[.pointer (some t)] 51)).alloc (.cells #[.pointer (some ⟨2, 51, none⟩), .pointer (some ⟨w.heap.size, 0, none⟩), .int .u64 150] 62)).alloc (.cells #[.pointer (some ⟨2, 51, none⟩), .pointer (some ⟨w.heap.size, 0, none⟩), .int .u64 150] 62)) := by
  have h6 := @run_callFunc_extern Tryd.prog 24 _ (fun args => ReflectliteValue.unpack (args.getD 0 (.tuple #[]))) Tryd.func24 (by kernel_rfl) (by kernel_rfl) (by kernel_rfl) (by kernel_rfl)
  have h7 := @run_callFunc_extern Tryd.prog 25 _ (ReflectliteValue.methodAny (ReflectliteValue.valueError "reflectlite.Value.Type" 0) (fun t _ _ _ => ReflectliteType.toType t)) Tryd.func25 (by kernel_rfl) (by kernel_rfl) (by kernel_rfl) (by kernel_rfl)
  have h8 := @run_callFunc_extern Tryd.prog 26 _ (ReflectliteValue.method (ReflectliteValue.valueError "reflectlite.Value.IsNil" 0) ReflectliteValue.isNil) Tryd.func26 (by kernel_rfl) (by kernel_rfl) (by kernel_rfl) (by kernel_rfl)
  have h27 := @run_callFunc_extern Tryd.prog 57 _ (ReflectliteType.abiMethod fun t => do pure (.int .u8 (← Rtype.kind t))) Tryd.func57 (by kernel_rfl) (by kernel_rfl) (by kernel_rfl) (by kernel_rfl)
  have h37 := @run_callFunc_extern Tryd.prog 69 _ (ReflectliteType.method ReflectliteType.elem) Tryd.func69 (by kernel_rfl) (by kernel_rfl) (by kernel_rfl) (by kernel_rfl)
  have h38 := @run_callFunc_extern Tryd.prog 70 _ (ReflectliteType.relation "Implements" ReflectliteType.implements_) Tryd.func70 (by kernel_rfl) (by kernel_rfl) (by kernel_rfl) (by kernel_rfl)
  have h10 := @run_callFunc_extern Tryd.prog 22 _ ReflectliteType.typeOf Tryd.func22 (by kernel_rfl) (by kernel_rfl) (by kernel_rfl) (by kernel_rfl)
  have h35 := @run_callFunc_extern Tryd.prog 67 _ (ReflectliteType.relation "AssignableTo" ReflectliteType.assignableTo) Tryd.func67 (by kernel_rfl) (by kernel_rfl) (by kernel_rfl) (by kernel_rfl)
  have tO := asf_typeOfK
  have mA := asf_methodAssignableTo
  have aK := asf_assignableK
  have nA := noAsK
  have uK := noUnK'
  have vK := noUsK'
  have f6 := asf_valueOf27
  have f7 := asf_type27
  have mK := asf_methodKind
  have mE := asf_methodElem
  have mI := asf_methodImplements
  have k27 := asf_kind27
  have k25 := asf_kind25
  have e27 := asf_elem27
  have i25 := asf_implements25
  have n8 := asf_isNil27 ⟨w.heap.size, 0, none⟩ t ((w.alloc (.cells #[.pointer (some t)] 51)).alloc (.cells #[.pointer (some ⟨2, 51, none⟩), .pointer (some ⟨w.heap.size, 0, none⟩), .int .u64 150] 62)) (by simp)
  have hlt : 0 < w.heap.size := by
    rcases Nat.eq_zero_or_pos w.heap.size with h0 | h
    · simp [World.cell?, h0] at hg
    · exact h
  have hg2 : ((w.alloc (.cells #[.pointer (some t)] 51)).alloc (.cells #[.pointer (some ⟨2, 51, none⟩), .pointer (some ⟨w.heap.size, 0, none⟩), .int .u64 150] 62)).cell? ⟨0, 0, none⟩ = some (.iface 74 (.agg #[.pointer (some ⟨2, 27, none⟩)])) := by
    rw [World.cell?_alloc_lt _ _ ⟨0, 0, none⟩ (by simp), World.cell?_alloc_lt _ _ ⟨0, 0, none⟩ hlt]; exact hg
  go_enter Tryd.func15, Tryd.ntmps15
  go_wp2
  refine wp_loop_rounds 1 ?_
  rw [rounds_succ]
  go_wp2
  go_ret
  exact ⟨rfl, rfl⟩
theorem asK_any (k : Int) (m : M) (id : Nat) (x : PV) (hid : m.get id = some [x]) :
    ACalls Tryd.prog 15 [.ifc 31 (.v (.int .i64 k)), .ifc 51 (.bp id 0)] m (fun v m' => v = .v (.bool false) ∧ m' = m) := by
  refine ⟨by kernel_rfl, fun G w vs hI hl hr => ?_⟩
  obtain ⟨v0, v1, rfl⟩ : ∃ v0 v1, vs = [v0, v1] := by
    match vs, hl with
    | [v0, v1], _ => exact ⟨v0, v1, rfl⟩
  have h0 := hr 0 (by simp) (by simp)
  have h1 := hr 1 (by simp) (by simp)
  simp only [List.getElem_cons_zero, List.getElem_cons_succ] at h0 h1
  obtain rfl : v0 = .iface 31 (.int .i64 k) := by
    cases h0 with
    | ifc _ _ y h => rw [h.atomEq]
  obtain ⟨rfl, hm, hnb⟩ : v1 = .iface 51 (.pointer (some ⟨G.box id, 0, none⟩)) ∧ G.mp id = false ∧ id < G.nb := by
    cases h1 with
    | ifc _ _ y h =>
      cases h with
      | bp _ _ q1 q2 => exact ⟨rfl, q2, q1⟩
  obtain ⟨cs, e, k1, k2, k3, k4, k5⟩ := hI.boxC hid hm
  obtain ⟨u, rfl⟩ := List.length_eq_one_iff.1 (k2.symm.trans rfl)
  have ht : w.cell? ⟨G.box id, 0, none⟩ = some u := by simp [World.cell?, k1]
  have hg : w.cell? ⟨0, 0, none⟩ = some (.iface 74 (.agg #[.pointer (some ⟨2, 27, none⟩)])) := by
    obtain ⟨u0, e1, e2⟩ := (hI.lay (0, fun v => v = .iface 74 (.agg #[.pointer (some ⟨2, 27, none⟩)])) (by simp only [laidC]; exact List.mem_cons_self)).1
    rw [e1]
    exact congrArg some e2
  refine (as_miss k ⟨G.box id, 0, none⟩ u w hg ht).mono ?_
  rintro ev w' ⟨rfl, rfl⟩
  obtain ⟨G1, i1, e1, a1, b1, c1⟩ := hI.pushed (.cells #[.pointer (some ⟨G.box id, 0, none⟩)] 51)
  obtain ⟨G2, i2, e2, a2, b2, c2⟩ := i1.pushed (.cells #[.pointer (some ⟨2, 51, none⟩), .pointer (some ⟨w.heap.size, 0, none⟩), .int .u64 150] 62)
  obtain ⟨G3, i3, e3, a3, b3, c3⟩ := i2.pushed (.cells #[.pointer (some ⟨2, 51, none⟩), .pointer (some ⟨w.heap.size, 0, none⟩), .int .u64 150] 62)
  exact .inl ⟨_, .v (.bool false), m, G3, rfl, ⟨rfl, rfl⟩, .v rfl, i3, (e1.trans e2).trans e3⟩
/-- errors.As of a kind, for the run. -/
def asHookK (next : CallR) : CallR := fun g args m => if g = 15 then (match args with
  | [PV.ifc t (PV.v (Value.int IntKind.i64 k)), PV.ifc t' (PV.bp id 0)] => if t = 31 ∧ t' = 51 then (match m.get id with
    | some [_] => some (.val (.v (.bool false)) m)
    | _ => none) else none
  | _ => next g args m) else next g args m
theorem asHookK_ok {next : CallR} (hn : CallOk Tryd.prog next) : CallOk Tryd.prog (asHookK next) := by
  intro g args m r h
  unfold asHookK at h
  split at h
  · rename_i hg
    subst hg
    split at h
    · split at h
      · rename_i hq
        obtain ⟨rfl, rfl⟩ := hq
        split at h
        · rename_i x hx
          cases h
          exact asK_any _ m _ _ hx
        · cases h
      · cases h
    · exact hn _ _ _ _ h
  · exact hn _ _ _ _ h
end Go.Proofs.YtijdhfjdnndkmaaDoor
