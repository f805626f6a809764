/-
 Texts that belong together: CsI, PsAs, PsK.
-/
-- halved
import Derived.Test.YtohgdopfjkjppaaGreatDoorLwA
import Derived.Test.YtohgdopfjkjppaaGreatDoorChecked
import Derived.WalkKit
import Derived.LaidEql
import Derived.Stop.Asserts
import Derived.RowKitTokens
import Derived.OneCell
import Derived.Test.YtohgdopfjkjppaaGreatDoorAbMac
import Derived.Test.YtohgdopfjkjppaaGreatDoorLrT
set_option linter.unusedVariables false
set_option linter.unusedSimpArgs false
namespace Go.Proofs.YtohgdopfjkjppaaGreatDoor
open Go Go.RowKit Go.Extern.Stop Go.Stop Go.Extern

theorem eql_int {P : Program} {ti tk : TypeId} {ms : Array (String × TypeId)} {i : TypeInfo} {k : IntKind} (a b : Int) (hi : P.underlying ti = some (.interface ms)) (hp : P.underlying tk = some (.int k)) (hinfo : P.info? tk = some i) (hcomp : i.comparable = true) (w : World) :
    (binOp .eql ti (.iface tk (.int k a)) (.iface tk (.int k b))).run P w = .ok (.bool (a == b)) w := by
 have h : ∀ d : Nat, (Op.equalIn (d + 2) ti (.iface tk (.int k a)) (.iface tk (.int k b))).run P w = .ok (a == b) w := fun d => by
  simp [Op.equalIn, run_underlying hi, run_underlying hp, typeInfo, hinfo, hcomp]
 simp only [binOp]
 simp [Op.equal, Op.maxDepth, h 9998]

theorem isTypeOf (v : Value) (w : World) : (Extern.ReflectliteType.typeOf #[.iface 34 v]).run Tryz.prog w = .ok (.iface 127 (.agg #[.pointer (some ⟨2, 34, none⟩)])) w := by kernel_rfl
theorem callTypeOf (v : Value) (w : World) : (callFunc 47 #[.iface 34 v]).run Tryz.prog w = .ok (.value (.iface 127 (.agg #[.pointer (some ⟨2, 34, none⟩)]))) w := by
 rw [@run_callFunc_extern Tryz.prog 47 _ Extern.ReflectliteType.typeOf Tryz.func47 (by kernel_rfl) (by kernel_rfl) (by kernel_rfl) (by kernel_rfl), isTypeOf]
 rfl
theorem callComparable (w : World) : (callFunc 172 #[.agg #[.pointer (some ⟨2, 34, none⟩)]]).run Tryz.prog w = .ok (.value (.bool true)) w := by
 rw [@run_callFunc_extern Tryz.prog 172 _ (Extern.ReflectliteType.method fun t => do Go.Extern.Rtype.noPackHeld "Comparable" t; pure (.bool (← typeInfo t).comparable)) Tryz.func172 (by kernel_rfl) (by kernel_rfl) (by kernel_rfl) (by kernel_rfl)]
 kernel_rfl
theorem isMethodComparable (v : Value) (w : World) : (Go.method 321 127 v "Comparable").run Tryz.prog w = .ok (172, v) w := by kernel_rfl
theorem noIsA (v : Value) (xT : TypeId) (w : World) : (Instr.typeAssert (.iface 59 v) xT 129 true).run Tryz.prog w = .ok (.tuple #[.nilIface, .bool false]) w := run_typeAssert_lacksB Tryz.underlying129 (by kernel_rfl) (by kernel_rfl) v xT w
theorem noIsK (v : Value) (xT : TypeId) (w : World) : (Instr.typeAssert (.iface 34 v) xT 129 true).run Tryz.prog w = .ok (.tuple #[.nilIface, .bool false]) w := run_typeAssert_lacksB Tryz.underlying129 (by kernel_rfl) (by kernel_rfl) v xT w
theorem noUnK (v : Value) (xT : TypeId) (w : World) : (Instr.typeAssert (.iface 34 v) xT 132 true).run Tryz.prog w = .ok (.tuple #[.nilIface, .bool false]) w := run_typeAssert_lacksB Tryz.underlying132 (by kernel_rfl) (by kernel_rfl) v xT w
theorem noUsK (v : Value) (xT : TypeId) (w : World) : (Instr.typeAssert (.iface 34 v) xT 134 true).run Tryz.prog w = .ok (.tuple #[.nilIface, .bool false]) w := run_typeAssert_lacksB Tryz.underlying134 (by kernel_rfl) (by kernel_rfl) v xT w
theorem hasUnA (v : Value) (xT : TypeId) (w : World) : (Instr.typeAssert (.iface 59 v) xT 132 true).run Tryz.prog w = .ok (.tuple #[.iface 59 v, .bool true]) w := run_typeAssert_hasB Tryz.underlying132 (by kernel_rfl) v xT w
theorem isComp : (Tryz.prog.info? 34).map (·.comparable) = some true := by kernel_rfl
theorem methodUnwrap (v : Value) (w : World) : (Go.method 321 59 v "Unwrap").run Tryz.prog w = .ok (166, v) w := by kernel_rfl

set_option maxRecDepth 20000 in
set_option maxHeartbeats 1000000 in
theorem is_at (b o : Nat) (k k' : Int) (w : World) (h1 : w.cell? ⟨b, o + 4, none⟩ = some (.iface 34 (.int .i64 k'))) :
    Calls Tryz.prog 22 #[.iface 59 (.pointer (some ⟨b, o, none⟩)), .iface 34 (.int .i64 k)] w fun e w' => e = .returned (.bool (k' == k)) ∧ w' = w := by
 obtain ⟨i, hi, hcmp⟩ := Option.map_eq_some_iff.1 isComp
 have hT := callTypeOf
 have hC := callComparable
 have mR := isMethodComparable
 have nA := noIsA
 have nK := noIsK
 have uK := noUnK
 have vK := noUsK
 have uA := hasUnA
 have mU := methodUnwrap
 have hty := run_eql_iface_types (P := Tryz.prog) 59 34 (.pointer (some ⟨b, o, none⟩)) (.int .i64 k) Tryz.underlying31 (by decide) w
 have heq := eql_int (P := Tryz.prog) k' k Tryz.underlying31 Tryz.underlying34 hi hcmp w
 go_enter Tryz.func22, Tryz.ntmps22
 go_wp2
 refine wp_loop_rounds 2 ?_
 rw [rounds_succ]
 go_wp2
 rw [rounds_succ]
 go_wp2
 all_goals (
  rename_i hk
  go_ret
  exact ⟨(by rw [hk]; rfl), rfl⟩)
theorem is_any (cells : List PV) (k k' : Int) (m : M) (hc : cells[4]? = some (.ifc 34 (.v (.int .i64 k')))) :
    ACalls Tryz.prog 22 [.ifc 59 (.ep cells), .ifc 34 (.v (.int .i64 k))] m (fun v m' => v = .v (.bool (k' == k)) ∧ m' = m) := by
 refine ⟨by kernel_rfl, fun G w vs hI hl hr => ?_⟩
 obtain ⟨v0, v1, rfl⟩ : ∃ v0 v1, vs = [v0, v1] := by
  match vs, hl with
  | [v0, v1], _ => exact ⟨v0, v1, rfl⟩
 have h0 := hr 0 (by simp) (by simp)
 have h1 := hr 1 (by simp) (by simp)
 simp only [List.getElem_cons_zero, List.getElem_cons_succ] at h0 h1
 obtain ⟨hlt, hc4⟩ := List.getElem?_eq_some_iff.1 hc
 cases h0 with
 | ifc _ _ y h0 =>
  cases h0 with
  | ep _ b off c hcc hp hrr =>
   cases h1 with
   | ifc _ _ y1 h1 =>
    cases h1
    have h4 := hrr 4 hlt
    rw [hc4] at h4
    have hcell := (hcc 4 hlt).1
    generalize c 4 = u at h4 hcell
    cases h4 with
    | ifc _ _ y2 h2 =>
     cases h2
     refine (is_at b off k k' w hcell).mono ?_
     rintro e w' ⟨he, rfl⟩
     exact .inl ⟨_, .v (.bool (k' == k)), m, G, he, ⟨rfl, rfl⟩, .v rfl, hI, Ext.refl _ _⟩

theorem asf_valueOf27 (t : Addr) (w : World) : (ReflectliteValue.unpack (.iface 61 (.pointer (some t)))).run Tryz.prog w
    = .ok (.agg #[.pointer (some ⟨2, 61, none⟩), .pointer (some ⟨w.heap.size, 0, none⟩), .int .u64 150]) (w.alloc (.cells #[.pointer (some t)] 61)) := by kernel_rfl
theorem asf_type27 (a : Addr) (w : World) : (ReflectliteValue.methodAny (ReflectliteValue.valueError "reflectlite.Value.Type" 0) (fun t _ _ _ => ReflectliteType.toType t) #[.agg #[.pointer (some ⟨2, 61, none⟩), .pointer (some a), .int .u64 150]]).run Tryz.prog w
    = .ok (.iface 127 (.agg #[.pointer (some ⟨2, 61, none⟩)])) w := by kernel_rfl
theorem asf_methodKind (h : Value) (w : World) : (Go.method 321 127 (.agg #[h]) "Kind").run Tryz.prog w = .ok (161, h) w := by kernel_rfl
theorem asf_kind27 (w : World) : ((ReflectliteType.abiMethod fun t => (fun a : Nat => Value.int IntKind.u8 (a : Int)) <$> Rtype.kind t) #[.pointer (some ⟨2, 61, none⟩)]).run Tryz.prog w = .ok (.int .u8 22) w := by kernel_rfl
theorem asf_kind25 (w : World) : ((ReflectliteType.abiMethod fun t => (fun a : Nat => Value.int IntKind.u8 (a : Int)) <$> Rtype.kind t) #[.pointer (some ⟨2, 59, none⟩)]).run Tryz.prog w = .ok (.int .u8 22) w := by kernel_rfl

theorem rlm (z : Sem Value) (f : TypeId → Addr → Nat → Nat → Sem Value) (v : Value) :
    ReflectliteValue.method z f #[v] = (do match ← ReflectliteValue.parts v with | none => z | some (t, a, fl) => f t a fl (fl % 32)) := rfl
theorem asf_parts27 (a : Addr) (w : World) : (ReflectliteValue.parts (.agg #[.pointer (some ⟨2, 61, none⟩), .pointer (some a), .int .u64 150])).run Tryz.prog w = .ok (some (61, a, 150)) w := by kernel_rfl
theorem asf_isNil27 (a p : Addr) (W : World) (ha : W.cell? a = some (.pointer (some p))) :
    (ReflectliteValue.method (ReflectliteValue.valueError "reflectlite.Value.IsNil" 0) ReflectliteValue.isNil #[.agg #[.pointer (some ⟨2, 61, none⟩), .pointer (some a), .int .u64 150]]).run Tryz.prog W = .ok (.bool false) W := by
 rw [rlm]
 simp only [Sem.run_bind, asf_parts27, Result.andThen]
 simp [ReflectliteValue.isNil, loadVar, isAgg, underlying, Tryz.underlying61, ha, Result.andThen]

theorem asf_methodElem (h : Value) (w : World) : (Go.method 321 127 (.agg #[h]) "Elem").run Tryz.prog w = .ok (173, .agg #[h]) w := by kernel_rfl
theorem asf_methodImplements (h : Value) (w : World) : (Go.method 321 127 (.agg #[h]) "Implements").run Tryz.prog w = .ok (174, .agg #[h]) w := by kernel_rfl
theorem asf_methodAssignableTo (h : Value) (w : World) : (Go.method 321 127 (.agg #[h]) "AssignableTo").run Tryz.prog w = .ok (171, .agg #[h]) w := by kernel_rfl
theorem asf_elem27 (w : World) : (ReflectliteType.method ReflectliteType.elem #[.agg #[.pointer (some ⟨2, 61, none⟩)]]).run Tryz.prog w = .ok (.iface 127 (.agg #[.pointer (some ⟨2, 59, none⟩)])) w := by kernel_rfl
theorem asf_implements25 (w : World) : (ReflectliteType.relation "Implements" ReflectliteType.implements_ #[.agg #[.pointer (some ⟨2, 59, none⟩)], .iface 127 (.agg #[.pointer (some ⟨2, 31, none⟩)])]).run Tryz.prog w = .ok (.bool true) w := by kernel_rfl
theorem asf_typeOf25 (v : Value) (w : World) : (ReflectliteType.typeOf #[.iface 59 v]).run Tryz.prog w = .ok (.iface 127 (.agg #[.pointer (some ⟨2, 59, none⟩)])) w := by kernel_rfl
theorem asf_assignable25 (w : World) : (ReflectliteType.relation "AssignableTo" ReflectliteType.assignableTo #[.agg #[.pointer (some ⟨2, 59, none⟩)], .iface 127 (.agg #[.pointer (some ⟨2, 59, none⟩)])]).run Tryz.prog w = .ok (.bool true) w := by kernel_rfl
theorem asf_valueOf25 (e : Addr) (w : World) : (ReflectliteValue.unpack (.iface 59 (.pointer (some e)))).run Tryz.prog w
    = .ok (.agg #[.pointer (some ⟨2, 59, none⟩), .pointer (some ⟨w.heap.size, 0, none⟩), .int .u64 150]) (w.alloc (.cells #[.pointer (some e)] 59)) := by kernel_rfl

theorem asf_elemOf27 (w : World) : (Rtype.elem? 61).run Tryz.prog w = .ok (some 59) w := by kernel_rfl
theorem asf_mk25 (p : Addr) (w : World) : (ReflectliteValue.mk 59 p ReflectliteValue.flagAddr).run Tryz.prog w = .ok (.agg #[.pointer (some ⟨2, 59, none⟩), .pointer (some p), .int .u64 406]) w := by kernel_rfl
theorem asf_elemV27 (a p : Addr) (W : World) (ha : W.cell? a = some (.pointer (some p))) :
    (ReflectliteValue.method (ReflectliteValue.valueError "reflectlite.Value.Elem" 0) ReflectliteValue.elem #[.agg #[.pointer (some ⟨2, 61, none⟩), .pointer (some a), .int .u64 150]]).run Tryz.prog W
     = .ok (.agg #[.pointer (some ⟨2, 59, none⟩), .pointer (some p), .int .u64 406]) W := by
 rw [rlm]
 simp only [Sem.run_bind, asf_parts27, Result.andThen]
 simp [ReflectliteValue.elem, loadVar, isAgg, underlying, Tryz.underlying61, ha, Result.andThen, asf_elemOf27, asf_mk25]
theorem rls (v x : Value) : ReflectliteValue.set #[v, x] = (do
    let (some (dst, a, fl), some (src, b, _)) := (← ReflectliteValue.parts v, ← ReflectliteValue.parts x)
     | unsupported (.noEntry "extern/(internal/reflectlite.Value).Set.zeroValue")
    if fl / ReflectliteValue.flagAddr % 2 == 0 then unsupported (.noEntry "extern/(internal/reflectlite.Value).Set.unaddressable")
    let val ← loadVar src b
    if ← Rtype.directlyAssignable dst src then storeVar dst a val
    else if ← Rtype.implements dst src then
     if (← Rtype.kind src) == 20 then
      match val with
      | .nilIface => unsupported (.noEntry "extern/reflectlite: a nil value of one interface type handed on as a value of another")
      | _ => storeVar dst a val
     else storeVar dst a (.iface src val)
    else panicString ("reflectlite.Set: value of type " ++ (← Rtype.spelt src) ++ " is not assignable to type " ++ (← Rtype.spelt dst))
    pure (.tuple #[])) := rfl
theorem asf_parts25a (a : Addr) (w : World) : (ReflectliteValue.parts (.agg #[.pointer (some ⟨2, 59, none⟩), .pointer (some a), .int .u64 406])).run Tryz.prog w = .ok (some (59, a, 406)) w := by kernel_rfl
theorem asf_parts25 (a : Addr) (w : World) : (ReflectliteValue.parts (.agg #[.pointer (some ⟨2, 59, none⟩), .pointer (some a), .int .u64 150])).run Tryz.prog w = .ok (some (59, a, 150)) w := by kernel_rfl
theorem asf_direct25 (w : World) : (Rtype.directlyAssignable 59 59).run Tryz.prog w = .ok true w := by kernel_rfl
theorem asf_set25 (ta b e : Addr) (old : Value) (W : World) (hb : W.cell? b = some (.pointer (some e))) (ht : W.cell? ta = some old) (hf : W.frozen? ta = false) :
    (ReflectliteValue.set #[.agg #[.pointer (some ⟨2, 59, none⟩), .pointer (some ta), .int .u64 406], .agg #[.pointer (some ⟨2, 59, none⟩), .pointer (some b), .int .u64 150]]).run Tryz.prog W
     = .ok (.tuple #[]) (W.setCell ta (.pointer (some e))) := by
 rw [rls]
 simp only [Sem.run_bind, asf_parts25a, asf_parts25, Result.andThen]
 simp [ReflectliteValue.flagAddr, loadVar, isAgg, underlying, Tryz.underlying59, hb, Result.andThen, asf_direct25, storeVar, Value.cells, storeCells, Addr.add]
 rw [run_store Tryz.prog W ta _ _ (by rfl)]
 simp [ht, hf]

set_option maxHeartbeats 4000000 in
theorem as_hit (e t : Addr) (old : Value) (w : World) (hg : w.cell? ⟨0, 0, none⟩ = some (.iface 127 (.agg #[.pointer (some ⟨2, 31, none⟩)]))) (ht0 : w.cell? t = some old) (hf0 : w.frozen? t = false) :
    Calls Tryz.prog 23 #[.iface 59 (.pointer (some e)), .iface 61 (.pointer (some t))] w fun ev w' => ev = .returned (.bool true) ∧ w' = ((((w.alloc (.cells #[.pointer (some t)] 61)).alloc (.cells #[.pointer (some ⟨2, 61, none⟩), .pointer (some ⟨w.heap.size, 0, none⟩), .int .u64 150] 96)).alloc (.cells #[.pointer (some ⟨2, 61, none⟩), .pointer (some ⟨w.heap.size, 0, none⟩), .int .u64 150] 96)).alloc (.cells #[.pointer (some e)] 59)).setCell t (.pointer (some e)) := by
 have h6 := @run_callFunc_extern Tryz.prog 49 _ (fun args => ReflectliteValue.unpack (args.getD 0 (.tuple #[]))) Tryz.func49 (by kernel_rfl) (by kernel_rfl) (by kernel_rfl) (by kernel_rfl)
 have h7 := @run_callFunc_extern Tryz.prog 50 _ (ReflectliteValue.methodAny (ReflectliteValue.valueError "reflectlite.Value.Type" 0) (fun t _ _ _ => ReflectliteType.toType t)) Tryz.func50 (by kernel_rfl) (by kernel_rfl) (by kernel_rfl) (by kernel_rfl)
 have h8 := @run_callFunc_extern Tryz.prog 51 _ (ReflectliteValue.method (ReflectliteValue.valueError "reflectlite.Value.IsNil" 0) ReflectliteValue.isNil) Tryz.func51 (by kernel_rfl) (by kernel_rfl) (by kernel_rfl) (by kernel_rfl)
 have h27 := @run_callFunc_extern Tryz.prog 161 _ (ReflectliteType.abiMethod fun t => do pure (.int .u8 (← Rtype.kind t))) Tryz.func161 (by kernel_rfl) (by kernel_rfl) (by kernel_rfl) (by kernel_rfl)
 have h37 := @run_callFunc_extern Tryz.prog 173 _ (ReflectliteType.method ReflectliteType.elem) Tryz.func173 (by kernel_rfl) (by kernel_rfl) (by kernel_rfl) (by kernel_rfl)
 have h38 := @run_callFunc_extern Tryz.prog 174 _ (ReflectliteType.relation "Implements" ReflectliteType.implements_) Tryz.func174 (by kernel_rfl) (by kernel_rfl) (by kernel_rfl) (by kernel_rfl)
 have h10 := @run_callFunc_extern Tryz.prog 47 _ ReflectliteType.typeOf Tryz.func47 (by kernel_rfl) (by kernel_rfl) (by kernel_rfl) (by kernel_rfl)
 have h35 := @run_callFunc_extern Tryz.prog 171 _ (ReflectliteType.relation "AssignableTo" ReflectliteType.assignableTo) Tryz.func171 (by kernel_rfl) (by kernel_rfl) (by kernel_rfl) (by kernel_rfl)
 have h11 := @run_callFunc_extern Tryz.prog 74 _ (ReflectliteValue.method (ReflectliteValue.valueError "reflectlite.Value.Elem" 0) ReflectliteValue.elem) Tryz.func74 (by kernel_rfl) (by kernel_rfl) (by kernel_rfl) (by kernel_rfl)
 have h12 := @run_callFunc_extern Tryz.prog 75 _ ReflectliteValue.set Tryz.func75 (by kernel_rfl) (by kernel_rfl) (by kernel_rfl) (by kernel_rfl)
 have tO := asf_typeOf25
 have mA := asf_methodAssignableTo
 have a25 := asf_assignable25
 have v25 := asf_valueOf25
 have f6 := asf_valueOf27
 have f7 := asf_type27
 have mK := asf_methodKind
 have mE := asf_methodElem
 have mI := asf_methodImplements
 have k27 := asf_kind27
 have k25 := asf_kind25
 have e27 := asf_elem27
 have i25 := asf_implements25
 have n8 := asf_isNil27 ⟨w.heap.size, 0, none⟩ t ((w.alloc (.cells #[.pointer (some t)] 61)).alloc (.cells #[.pointer (some ⟨2, 61, none⟩), .pointer (some ⟨w.heap.size, 0, none⟩), .int .u64 150] 96)) (by simp)
 have hlt : 0 < w.heap.size := by
  rcases Nat.eq_zero_or_pos w.heap.size with h0 | h
  ·simp [World.cell?, h0] at hg
  ·exact h
 have hg2 : ((w.alloc (.cells #[.pointer (some t)] 61)).alloc (.cells #[.pointer (some ⟨2, 61, none⟩), .pointer (some ⟨w.heap.size, 0, none⟩), .int .u64 150] 96)).cell? ⟨0, 0, none⟩ = some (.iface 127 (.agg #[.pointer (some ⟨2, 31, none⟩)])) := by
  rw [World.cell?_alloc_lt _ _ ⟨0, 0, none⟩ (by simp), World.cell?_alloc_lt _ _ ⟨0, 0, none⟩ hlt]; exact hg
 have htl : t.block < w.heap.size := by
  rcases Nat.lt_or_ge t.block w.heap.size with h | h
  ·exact h
  ·simp [World.cell?, Array.getElem?_eq_none h] at ht0
 have el := asf_elemV27 ⟨w.heap.size, 0, none⟩ t (((w.alloc (.cells #[.pointer (some t)] 61)).alloc (.cells #[.pointer (some ⟨2, 61, none⟩), .pointer (some ⟨w.heap.size, 0, none⟩), .int .u64 150] 96)).alloc (.cells #[.pointer (some ⟨2, 61, none⟩), .pointer (some ⟨w.heap.size, 0, none⟩), .int .u64 150] 96)) (by rw [World.cell?_alloc_lt _ _ ⟨w.heap.size, 0, none⟩ (by simp; omega)]; simp)
 have st := asf_set25 t ⟨w.heap.size + 1 + 1 + 1, 0, none⟩ e old ((((w.alloc (.cells #[.pointer (some t)] 61)).alloc (.cells #[.pointer (some ⟨2, 61, none⟩), .pointer (some ⟨w.heap.size, 0, none⟩), .int .u64 150] 96)).alloc (.cells #[.pointer (some ⟨2, 61, none⟩), .pointer (some ⟨w.heap.size, 0, none⟩), .int .u64 150] 96)).alloc (.cells #[.pointer (some e)] 59))
  (by rw [World.cell?_alloc_at _ _ _ _ (by simp)]; rfl)
  (by rw [World.cell?_alloc_lt _ _ t (by simp; omega), World.cell?_alloc_lt _ _ t (by simp; omega), World.cell?_alloc_lt _ _ t (by simp; omega), World.cell?_alloc_lt _ _ t htl]; exact ht0)
  (by rw [World.frozen?_alloc_old _ _ t (by simp; omega), World.frozen?_alloc_old _ _ t (by simp; omega), World.frozen?_alloc_old _ _ t (by simp; omega), World.frozen?_alloc_old _ _ t (Nat.ne_of_lt htl)]; exact hf0)
 go_enter Tryz.func23, Tryz.ntmps23
 go_wp2
 refine wp_loop_rounds 1 ?_
 rw [rounds_succ]
 go_wp2
 go_ret
 exact ⟨rfl, rfl⟩
theorem setCell_rowed (w : World) (b o : Nat) (v : Value) : Rowed w (w.setCell ⟨b, o, none⟩ v) b := setCells_rowed b [v] o w
theorem Inv.pushed {G : Ghost} {m : M} {w : World} (hI : Inv G m w) (o : Obj) : ∃ G', Inv G' m (w.alloc o) ∧ Ext G w G' (w.alloc o) ∧ G'.nb = G.nb ∧ G'.box = G.box ∧ G'.mp = G.mp := by
 obtain ⟨h1, h2⟩ := hI.push (Pushed.alloc w o) (fun _ => False)
 exact ⟨_, h2, h1, rfl, rfl, rfl⟩
set_option maxHeartbeats 1000000 in
theorem as_any (cells : List PV) (m : M) (id : Nat) (x : PV) (hid : m.get id = some [x]) :
    ACalls Tryz.prog 23 [.ifc 59 (.ep cells), .ifc 61 (.bp id 0)] m (fun v m' => v = .v (.bool true) ∧ m' = m.upd id [.ep cells]) := by
 refine ⟨by kernel_rfl, fun G w vs hI hl hr => ?_⟩
 obtain ⟨v0, v1, rfl⟩ : ∃ v0 v1, vs = [v0, v1] := by
  match vs, hl with
  | [v0, v1], _ => exact ⟨v0, v1, rfl⟩
 have h0 := hr 0 (by simp) (by simp)
 have h1 := hr 1 (by simp) (by simp)
 simp only [List.getElem_cons_zero, List.getElem_cons_succ] at h0 h1
 obtain ⟨y0, rfl, hep⟩ : ∃ y0, v0 = .iface 59 y0 ∧ Rep G w (.ep cells) y0 := by
  cases h0 with
  | ifc _ _ y h => exact ⟨y, rfl, h⟩
 obtain ⟨ad, rfl⟩ : ∃ ad, y0 = .pointer (some ad) := by
  obtain ⟨b, off, c, rfl, _⟩ := ep_inv hep
  exact ⟨_, rfl⟩
 obtain ⟨rfl, hm, hnb⟩ : v1 = .iface 61 (.pointer (some ⟨G.box id, 0, none⟩)) ∧ G.mp id = false ∧ id < G.nb := by
  cases h1 with
  | ifc _ _ y h =>
   cases h with
   | bp _ _ q1 q2 => exact ⟨rfl, q2, q1⟩
 obtain ⟨cs, e, k1, k2, k3, k4, k5⟩ := hI.boxC hid hm
 obtain ⟨u, rfl⟩ := List.length_eq_one_iff.1 (k2.symm.trans rfl)
 have ht : w.cell? ⟨G.box id, 0, none⟩ = some u := by simp [World.cell?, k1]
 have hf : w.frozen? ⟨G.box id, 0, none⟩ = false := by simp [World.frozen?, k1]
 have hg : w.cell? ⟨0, 0, none⟩ = some (.iface 127 (.agg #[.pointer (some ⟨2, 31, none⟩)])) := by
  obtain ⟨u0, e1, e2⟩ := (hI.lay (0, fun v => v = .iface 127 (.agg #[.pointer (some ⟨2, 31, none⟩)])) (by simp only [laidC]; exact List.mem_cons_self)).1
  rw [e1]
  exact congrArg some e2
 refine (as_hit ad ⟨G.box id, 0, none⟩ u w hg ht hf).mono ?_
 rintro ev w' ⟨rfl, rfl⟩
 obtain ⟨G1, i1, e1, a1, b1, c1⟩ := hI.pushed (.cells #[.pointer (some ⟨G.box id, 0, none⟩)] 61)
 obtain ⟨G2, i2, e2, a2, b2, c2⟩ := i1.pushed (.cells #[.pointer (some ⟨2, 61, none⟩), .pointer (some ⟨w.heap.size, 0, none⟩), .int .u64 150] 96)
 obtain ⟨G3, i3, e3, a3, b3, c3⟩ := i2.pushed (.cells #[.pointer (some ⟨2, 61, none⟩), .pointer (some ⟨w.heap.size, 0, none⟩), .int .u64 150] 96)
 obtain ⟨G4, i4, e4, a4, b4, c4⟩ := i3.pushed (.cells #[.pointer (some ad)] 59)
 have hE := ((e1.trans e2).trans e3).trans e4
 have hbx : G4.box id = G.box id := by rw [b4, b3, b2, b1]
 have hmp : G4.mp id = false := by rw [c4, c3, c2, c1]; exact hm
 have k1' : ∀ {w : World} (o : Obj), w.heap[G.box id]? = some (.cells #[u] e (0, 0)) → (w.alloc o).heap[G.box id]? = some (.cells #[u] e (0, 0)) := fun {w} o h =>
  ((Pushed.alloc w o).old (Array.getElem?_eq_some_iff.1 h).1).trans h
 have hb5 := one_setCell (u := .pointer (some ad)) (k1' (.cells #[.pointer (some ad)] 59) (k1' (.cells #[.pointer (some ⟨2, 61, none⟩), .pointer (some ⟨w.heap.size, 0, none⟩), .int .u64 150] 96) (k1' (.cells #[.pointer (some ⟨2, 61, none⟩), .pointer (some ⟨w.heap.size, 0, none⟩), .int .u64 150] 96) (k1' (.cells #[.pointer (some ⟨G.box id, 0, none⟩)] 61) k1))))
 have hrow := setCell_rowed ((((w.alloc (.cells #[.pointer (some ⟨G.box id, 0, none⟩)] 61)).alloc (.cells #[.pointer (some ⟨2, 61, none⟩), .pointer (some ⟨w.heap.size, 0, none⟩), .int .u64 150] 96)).alloc (.cells #[.pointer (some ⟨2, 61, none⟩), .pointer (some ⟨w.heap.size, 0, none⟩), .int .u64 150] 96)).alloc (.cells #[.pointer (some ad)] 59)) (G4.box id) 0 (.pointer (some ad))
 obtain ⟨hE5, hI5⟩ := i4.store (c' := [.ep cells]) hid hmp hrow [.pointer (some ad)] e (by rw [hbx]; exact hb5) rfl (fun j q1 q2 => by
  obtain rfl : j = 0 := by simp at q1; omega
  exact hep.mono hE) (fun v hv => by
  obtain rfl := List.mem_singleton.1 hv
  rfl)
 rw [hbx] at hE5 hI5
 exact .inl ⟨_, .v (.bool true), _, _, rfl, ⟨rfl, rfl⟩, .v rfl, hI5, hE.trans hE5⟩

open Nat renaming reduceEqDiff → jA, reduceAdd → jB, reduceMul → jC, reduceLT → jD, reduceLeDiff → jE, reduceBEq → jF, reduceBNe → jG
open Int renaming reduceLE → jH, reduceLT → jI, reduceToNat → jJ, reduceEq → jK
open Go
set_option maxRecDepth 20000

set_option linter.defProp false
def tfPsK := tfPsC
section
variable (l c : Int) (m : M)
set_option maxHeartbeats 1000000 in
theorem where_at (k : Int) : ACalls Tryz.prog 10 [pA l c k] m (fun v m' => v = posPV l c ∧ m' = m) := by
 refine eN [2, 3] Tryz.func10 ?_
 (repeat revert X); refine wE tfPsK ?_; repeat intro X hX
 obtain ⟨I, hI⟩ : ∃ I : F → M → Prop, ∀ f m', I f m' = (f 0 = pA l c k ∧ f 2 = .bp m.nb 0 ∧ m' = m.ext [some [.v (.int .i64 0), .v (.int .i64 0)]]) := ⟨_, fun _ _ => rfl⟩
 refine aLoop I (fun _ _ => 0) ?_ ?_
 ·rw [hI]; exact ⟨rfl, rfl, rfl⟩
 intro f m' hrel
 rw [hI] at hrel
 obtain ⟨f0, f2, rfl⟩ := hrel
 (repeat revert X); refine wE (And.intro tfPsK (And.intro f0 f2)) ?_; repeat intro X hX
 refine callM (as_any _ _ (m.nb + 1) (.v (.pointer none)) (ext_get (i := 1) rfl)) ?_
 rintro v m' ⟨rfl, rfl⟩
 refine wS (And.intro tfPsK f2) ?_
 (repeat revert X); refine wE (And.intro tfPsK (And.intro f0 f2)) ?_; repeat intro X hX
 trace_state
 refine wQ Tryz.results10 (And.intro tfPsK f2) ?_
 exact leave_ext rfl ⟨rfl, rfl⟩
set_option maxHeartbeats 1000000 in
theorem where_nil : ACalls Tryz.prog 10 [.v .nilIface] m (fun v m' => v = posPV 0 0 ∧ m' = m) := by
 refine eN [2, 3] Tryz.func10 ?_
 (repeat revert X); refine wE tfPsK ?_; repeat intro X hX
 obtain ⟨I, hI⟩ : ∃ I : F → M → Prop, ∀ f m', I f m' = (f 0 = .v .nilIface ∧ f 2 = .bp m.nb 0 ∧ m' = m.ext [some [.v (.int .i64 0), .v (.int .i64 0)]]) := ⟨_, fun _ _ => rfl⟩
 refine aLoop I (fun _ _ => 0) ?_ ?_
 ·rw [hI]; exact ⟨rfl, rfl, rfl⟩
 intro f m' hrel
 rw [hI] at hrel
 obtain ⟨f0, f2, rfl⟩ := hrel
 (repeat revert X); refine wE (And.intro tfPsK (And.intro f0 f2)) ?_; repeat intro X hX
 refine wQ Tryz.results10 (And.intro tfPsK f2) ?_
 exact leave_ext rfl ⟨rfl, rfl⟩
theorem kind_nil : ACalls Tryz.prog 9 [.v .nilIface] m (fun v m' => v = .v (.int .i64 0) ∧ m' = m) := by
 refine eN [] Tryz.func9 ?_
 (repeat revert X); refine wD tfPsK ?_; repeat intro X hX
 refine wR Tryz.results9 ?_
 exact leave_same rfl ⟨rfl, rfl⟩
set_option maxHeartbeats 1000000 in
theorem kind_at (q : Nat) (h1 : 1 ≤ q) (h2 : q ≤ 10) : ACalls Tryz.prog 9 [pA l c q] m (fun v m' => v = .v (.int .i64 q) ∧ m' = m) := by
 refine eN [] Tryz.func9 ?_
 (repeat revert X); refine wE tfPsK ?_; repeat intro X hX
 obtain ⟨I, hI⟩ : ∃ I : F → M → Prop, ∀ f m', I f m' = (∃ k : Nat, 1 ≤ k ∧ k ≤ q ∧ f 0 = pA l c q ∧ f 3 = pI k ∧ m' = m) := ⟨_, fun _ _ => rfl⟩
 refine aLoop I (fun f m => 10 - numOf (f 3)) ?_ ?_
 ·rw [hI]; exact ⟨1, by omega, by omega, rfl, rfl, rfl⟩
 intro f m' hrel
 rw [hI] at hrel
 obtain ⟨k, hk1, hk2, f0, f3, rfl⟩ := hrel
 have c1 : decide ((k : Int) ≤ 12) = true := by simp; omega
 have hi : IntKind.i64.wrap ((k : Int) + 1) = ((k + 1 : Nat) : Int) := by rw [wrap64 (by omega)]; omega
 have hme : numOf (f 3) = k := by rw [f3]; exact Int.toNat_natCast k
 (repeat revert X); refine wE (And.intro tfPsK (And.intro f0 (And.intro f3 (And.intro @pI.eq_1 c1)))) ?_; repeat intro X hX
 refine callE (is_any _ (k : Int) q m' rfl) ?_
 cases c2 : ((q : Int) == (k : Int)) with
 | true =>
  obtain rfl : k = q := by simp at c2; omega
  refine wS tfPsK ?_
  (repeat revert X); refine wE (And.intro tfPsK (And.intro f3 @pI.eq_1)) ?_; repeat intro X hX
  refine wR Tryz.results9 ?_
  exact leave_same rfl ⟨rfl, rfl⟩
 | false =>
  have hne : k ≠ q := by rintro rfl; simp at c2
  refine wS tfPsK ?_
  (repeat (first | refine aSeq fun X hX => ?_ | apply aBlk | refine aSkip ?_ | (first | refine aExit ?_ | refine aRet ?_); try simp only [slx, ↓reduceIte, jA, reduceCtorEq] | (first | apply aReg | apply aIf); simp -implicitDefEqProofs only [forall_eq, ↓slp, slb, ↓reduceIte, reduceCtorEq, jA, jB, jC, jD, jE, jF, jG, jH, jI, jJ, jK, tfPsK, f3, pI, hi]; try simp only [fo] | apply hX; clear hX X | clear hX X; apply hX; clear hX X | clear hX X; clear hX X; apply hX; clear hX X | intro hlen; unfold maxLen at hlen | apply And.intro; · first | assumption | and_intros <;> first | omega | assumption))
  rw [hI]
  exact ⟨⟨k + 1, by omega, by omega, f0, rfl, rfl⟩, by omega⟩
theorem kind_1 : ACalls Tryz.prog 9 [pA l c 1] m (fun v m' => v = .v (.int .i64 1) ∧ m' = m) := kind_at l c m 1 (by omega) (by omega)
theorem kind_2 : ACalls Tryz.prog 9 [pA l c 2] m (fun v m' => v = .v (.int .i64 2) ∧ m' = m) := kind_at l c m 2 (by omega) (by omega)
theorem kind_3 : ACalls Tryz.prog 9 [pA l c 3] m (fun v m' => v = .v (.int .i64 3) ∧ m' = m) := kind_at l c m 3 (by omega) (by omega)
end
structure KdOk (k l c : Int) : Prop where
 kd : k = 0 ∨ k = 1 ∨ k = 2 ∨ k = 3
 no : k = 0 → l = 0 ∧ c = 0
theorem errKind_any {k l c : Int} (h : KdOk k l c) (m : M) : ACalls Tryz.prog 9 [errW k l c] m (fun v m' => v = .v (.int .i64 k) ∧ m' = m) := by
 rcases h.kd with rfl | rfl | rfl | rfl
 ·exact kind_nil m
 ·exact kind_1 l c m
 ·exact kind_2 l c m
 ·exact kind_3 l c m
theorem errWhere_any {k l c : Int} (h : KdOk k l c) (m : M) : ACalls Tryz.prog 10 [errW k l c] m (fun v m' => v = posPV l c ∧ m' = m) := by
 rcases h.kd with rfl | rfl | rfl | rfl
 ·obtain ⟨rfl, rfl⟩ := h.no rfl
  exact where_nil m
 ·exact where_at l c m 1
 ·exact where_at l c m 2
 ·exact where_at l c m 3
theorem words_bad (s : Str) (h : (lexAll s).ok = false) : KdOk (lexAll s).kind (lexAll s).line (lexAll s).col := by
 have := (lexAll_toks s).2 h
 exact ⟨by omega, fun h => by omega⟩
theorem kd_of {L : List Tk} {s : PS} (h : s.ok L) (hk : (s.k == 0) = false) : KdOk s.k s.l s.c := by
 have h0 : s.k ≠ 0 := by simpa using hk
 have := h.kd
 exact ⟨by omega, fun h => absurd h h0⟩
theorem txtProg_kd (s : Str) : KdOk (txtProg s).2.1 (txtProg s).2.2.1 (txtProg s).2.2.2 := by
 unfold txtProg
 cases h : (lexAll s).ok with
 | false => exact words_bad s h
 | true =>
  have hL := words_ok s h
  rw [if_pos rfl]
  unfold rProgW
  obtain ⟨r, hr⟩ : ∃ r, rProg (words s) ((words s).length + 1) [] [] ⟨0, 0, 0, 0⟩ = r := ⟨_, rfl⟩
  have ha : r.2.ok (words s) := by rw [← hr]; exact (progL_adv hL _ _ _ _ (ok0 hL)).ok
  simp only [hr]
  cases hk : (r.2.k == 0) with
  | true => exact ⟨.inl rfl, fun _ => ⟨rfl, rfl⟩⟩
  | false => exact kd_of ha hk
end Go.Proofs.YtohgdopfjkjppaaGreatDoor
