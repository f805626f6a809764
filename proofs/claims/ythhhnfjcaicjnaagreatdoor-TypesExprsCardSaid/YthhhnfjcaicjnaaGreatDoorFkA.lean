/-
 Texts that belong together: CsI, PsAs.
-/
-- halved
import Derived.Test.YthhhnfjcaicjnaaGreatDoorLwA
import Derived.Test.YthhhnfjcaicjnaaGreatDoorChecked
import Derived.WalkKit
import Derived.LaidEql
import Derived.Stop.Asserts
import Derived.RowKitTokens
import Derived.OneCell
set_option linter.unusedVariables false
set_option linter.unusedSimpArgs false
namespace Go.Proofs.YthhhnfjcaicjnaaGreatDoor
open Go Go.RowKit Go.Extern.Stop Go.Stop Go.Extern

theorem eql_int {P : Program} {ti tk : TypeId} {ms : Array (String × TypeId)} {i : TypeInfo} {k : IntKind} (a b : Int) (hi : P.underlying ti = some (.interface ms)) (hp : P.underlying tk = some (.int k)) (hinfo : P.info? tk = some i) (hcomp : i.comparable = true) (w : World) :
    (binOp .eql ti (.iface tk (.int k a)) (.iface tk (.int k b))).run P w = .ok (.bool (a == b)) w := by
 have h : ∀ d : Nat, (Op.equalIn (d + 2) ti (.iface tk (.int k a)) (.iface tk (.int k b))).run P w = .ok (a == b) w := fun d => by
  simp [Op.equalIn, run_underlying hi, run_underlying hp, typeInfo, hinfo, hcomp]
 simp only [binOp]
 simp [Op.equal, Op.maxDepth, h 9998]

theorem isTypeOf (v : Value) (w : World) : (Extern.ReflectliteType.typeOf #[.iface 58 v]).run Tryz.prog w = .ok (.iface 181 (.agg #[.pointer (some ⟨1, 58, none⟩)])) w := by kernel_rfl
theorem callTypeOf (v : Value) (w : World) : (callFunc 72 #[.iface 58 v]).run Tryz.prog w = .ok (.value (.iface 181 (.agg #[.pointer (some ⟨1, 58, none⟩)]))) w := by
 rw [@run_callFunc_extern Tryz.prog 72 _ Extern.ReflectliteType.typeOf Tryz.func72 (by kernel_rfl) (by kernel_rfl) (by kernel_rfl) (by kernel_rfl), isTypeOf]
 rfl
theorem callComparable (w : World) : (callFunc 141 #[.agg #[.pointer (some ⟨1, 58, none⟩)]]).run Tryz.prog w = .ok (.value (.bool true)) w := by
 rw [@run_callFunc_extern Tryz.prog 141 _ (Extern.ReflectliteType.method fun t => do Go.Extern.Rtype.noPackHeld "Comparable" t; pure (.bool (← typeInfo t).comparable)) Tryz.func141 (by kernel_rfl) (by kernel_rfl) (by kernel_rfl) (by kernel_rfl)]
 kernel_rfl
theorem isMethodComparable (v : Value) (w : World) : (Go.method 338 181 v "Comparable").run Tryz.prog w = .ok (141, v) w := by kernel_rfl
theorem noIsA (v : Value) (xT : TypeId) (w : World) : (Instr.typeAssert (.iface 98 v) xT 193 true).run Tryz.prog w = .ok (.tuple #[.nilIface, .bool false]) w := run_typeAssert_lacksB Tryz.underlying193 (by kernel_rfl) (by kernel_rfl) v xT w
theorem noIsK (v : Value) (xT : TypeId) (w : World) : (Instr.typeAssert (.iface 58 v) xT 193 true).run Tryz.prog w = .ok (.tuple #[.nilIface, .bool false]) w := run_typeAssert_lacksB Tryz.underlying193 (by kernel_rfl) (by kernel_rfl) v xT w
theorem noUnK (v : Value) (xT : TypeId) (w : World) : (Instr.typeAssert (.iface 58 v) xT 188 true).run Tryz.prog w = .ok (.tuple #[.nilIface, .bool false]) w := run_typeAssert_lacksB Tryz.underlying188 (by kernel_rfl) (by kernel_rfl) v xT w
theorem noUsK (v : Value) (xT : TypeId) (w : World) : (Instr.typeAssert (.iface 58 v) xT 190 true).run Tryz.prog w = .ok (.tuple #[.nilIface, .bool false]) w := run_typeAssert_lacksB Tryz.underlying190 (by kernel_rfl) (by kernel_rfl) v xT w
theorem hasUnA (v : Value) (xT : TypeId) (w : World) : (Instr.typeAssert (.iface 98 v) xT 188 true).run Tryz.prog w = .ok (.tuple #[.iface 98 v, .bool true]) w := run_typeAssert_hasB Tryz.underlying188 (by kernel_rfl) v xT w
theorem isComp : (Tryz.prog.info? 58).map (·.comparable) = some true := by kernel_rfl
theorem methodUnwrap (v : Value) (w : World) : (Go.method 338 98 v "Unwrap").run Tryz.prog w = .ok (135, v) w := by kernel_rfl

set_option maxRecDepth 20000 in
set_option maxHeartbeats 1000000 in
theorem is_at (b o : Nat) (k k' : Int) (w : World) (h1 : w.cell? ⟨b, o + 4, none⟩ = some (.iface 58 (.int .i64 k'))) :
    Calls Tryz.prog 31 #[.iface 98 (.pointer (some ⟨b, o, none⟩)), .iface 58 (.int .i64 k)] w fun e w' => e = .returned (.bool (k' == k)) ∧ w' = w := by
 obtain ⟨i, hi, hcmp⟩ := Option.map_eq_some_iff.1 isComp
 have hT := callTypeOf
 have hC := callComparable
 have mR := isMethodComparable
 have nA := noIsA
 have nK := noIsK
 have uK := noUnK
 have vK := noUsK
 have uA := hasUnA
 have mU := methodUnwrap
 have hty := run_eql_iface_types (P := Tryz.prog) 98 58 (.pointer (some ⟨b, o, none⟩)) (.int .i64 k) Tryz.underlying33 (by decide) w
 have heq := eql_int (P := Tryz.prog) k' k Tryz.underlying33 Tryz.underlying58 hi hcmp w
 go_enter Tryz.func31, Tryz.ntmps31
 go_wp2
 refine wp_loop_rounds 2 ?_
 rw [rounds_succ]
 go_wp2
 rw [rounds_succ]
 go_wp2
 all_goals (
  rename_i hk
  go_ret
  exact ⟨(by rw [hk]; rfl), rfl⟩)
theorem is_any (cells : List PV) (k k' : Int) (m : M) (hc : cells[4]? = some (.ifc 58 (.v (.int .i64 k')))) :
    ACalls Tryz.prog 31 [.ifc 98 (.ep cells), .ifc 58 (.v (.int .i64 k))] m (fun v m' => v = .v (.bool (k' == k)) ∧ m' = m) := by
 refine ⟨by kernel_rfl, fun G w vs hI hl hr => ?_⟩
 obtain ⟨v0, v1, rfl⟩ : ∃ v0 v1, vs = [v0, v1] := by
  match vs, hl with
  | [v0, v1], _ => exact ⟨v0, v1, rfl⟩
 have h0 := hr 0 (by simp) (by simp)
 have h1 := hr 1 (by simp) (by simp)
 simp only [List.getElem_cons_zero, List.getElem_cons_succ] at h0 h1
 obtain ⟨hlt, hc4⟩ := List.getElem?_eq_some_iff.1 hc
 cases h0 with
 | ifc _ _ y h0 =>
  cases h0 with
  | ep _ b off c hcc hp hrr =>
   cases h1 with
   | ifc _ _ y1 h1 =>
    cases h1
    have h4 := hrr 4 hlt
    rw [hc4] at h4
    have hcell := (hcc 4 hlt).1
    generalize c 4 = u at h4 hcell
    cases h4 with
    | ifc _ _ y2 h2 =>
     cases h2
     refine (is_at b off k k' w hcell).mono ?_
     rintro e w' ⟨he, rfl⟩
     exact .inl ⟨_, .v (.bool (k' == k)), m, G, he, ⟨rfl, rfl⟩, .v rfl, hI, Ext.refl _ _⟩

theorem asf_valueOf27 (t : Addr) (w : World) : (ReflectliteValue.unpack (.iface 100 (.pointer (some t)))).run Tryz.prog w
    = .ok (.agg #[.pointer (some ⟨1, 100, none⟩), .pointer (some ⟨w.heap.size, 0, none⟩), .int .u64 150]) (w.alloc (.cells #[.pointer (some t)] 100)) := by kernel_rfl
theorem asf_type27 (a : Addr) (w : World) : (ReflectliteValue.methodAny (ReflectliteValue.valueError "reflectlite.Value.Type" 0) (fun t _ _ _ => ReflectliteType.toType t) #[.agg #[.pointer (some ⟨1, 100, none⟩), .pointer (some a), .int .u64 150]]).run Tryz.prog w
    = .ok (.iface 181 (.agg #[.pointer (some ⟨1, 100, none⟩)])) w := by kernel_rfl
theorem asf_methodKind (h : Value) (w : World) : (Go.method 338 181 (.agg #[h]) "Kind").run Tryz.prog w = .ok (129, h) w := by kernel_rfl
theorem asf_kind27 (w : World) : ((ReflectliteType.abiMethod fun t => (fun a : Nat => Value.int IntKind.u8 (a : Int)) <$> Rtype.kind t) #[.pointer (some ⟨1, 100, none⟩)]).run Tryz.prog w = .ok (.int .u8 22) w := by kernel_rfl
theorem asf_kind25 (w : World) : ((ReflectliteType.abiMethod fun t => (fun a : Nat => Value.int IntKind.u8 (a : Int)) <$> Rtype.kind t) #[.pointer (some ⟨1, 98, none⟩)]).run Tryz.prog w = .ok (.int .u8 22) w := by kernel_rfl

theorem rlm (z : Sem Value) (f : TypeId → Addr → Nat → Nat → Sem Value) (v : Value) :
    ReflectliteValue.method z f #[v] = (do match ← ReflectliteValue.parts v with | none => z | some (t, a, fl) => f t a fl (fl % 32)) := rfl
theorem asf_parts27 (a : Addr) (w : World) : (ReflectliteValue.parts (.agg #[.pointer (some ⟨1, 100, none⟩), .pointer (some a), .int .u64 150])).run Tryz.prog w = .ok (some (100, a, 150)) w := by kernel_rfl
theorem asf_isNil27 (a p : Addr) (W : World) (ha : W.cell? a = some (.pointer (some p))) :
    (ReflectliteValue.method (ReflectliteValue.valueError "reflectlite.Value.IsNil" 0) ReflectliteValue.isNil #[.agg #[.pointer (some ⟨1, 100, none⟩), .pointer (some a), .int .u64 150]]).run Tryz.prog W = .ok (.bool false) W := by
 rw [rlm]
 simp only [Sem.run_bind, asf_parts27, Result.andThen]
 simp [ReflectliteValue.isNil, loadVar, isAgg, underlying, Tryz.underlying100, ha, Result.andThen]

theorem asf_methodElem (h : Value) (w : World) : (Go.method 338 181 (.agg #[h]) "Elem").run Tryz.prog w = .ok (142, .agg #[h]) w := by kernel_rfl
theorem asf_methodImplements (h : Value) (w : World) : (Go.method 338 181 (.agg #[h]) "Implements").run Tryz.prog w = .ok (143, .agg #[h]) w := by kernel_rfl
theorem asf_methodAssignableTo (h : Value) (w : World) : (Go.method 338 181 (.agg #[h]) "AssignableTo").run Tryz.prog w = .ok (140, .agg #[h]) w := by kernel_rfl
theorem asf_elem27 (w : World) : (ReflectliteType.method ReflectliteType.elem #[.agg #[.pointer (some ⟨1, 100, none⟩)]]).run Tryz.prog w = .ok (.iface 181 (.agg #[.pointer (some ⟨1, 98, none⟩)])) w := by kernel_rfl
theorem asf_implements25 (w : World) : (ReflectliteType.relation "Implements" ReflectliteType.implements_ #[.agg #[.pointer (some ⟨1, 98, none⟩)], .iface 181 (.agg #[.pointer (some ⟨1, 33, none⟩)])]).run Tryz.prog w = .ok (.bool true) w := by kernel_rfl
theorem asf_typeOf25 (v : Value) (w : World) : (ReflectliteType.typeOf #[.iface 98 v]).run Tryz.prog w = .ok (.iface 181 (.agg #[.pointer (some ⟨1, 98, none⟩)])) w := by kernel_rfl
theorem asf_assignable25 (w : World) : (ReflectliteType.relation "AssignableTo" ReflectliteType.assignableTo #[.agg #[.pointer (some ⟨1, 98, none⟩)], .iface 181 (.agg #[.pointer (some ⟨1, 98, none⟩)])]).run Tryz.prog w = .ok (.bool true) w := by kernel_rfl
theorem asf_valueOf25 (e : Addr) (w : World) : (ReflectliteValue.unpack (.iface 98 (.pointer (some e)))).run Tryz.prog w
    = .ok (.agg #[.pointer (some ⟨1, 98, none⟩), .pointer (some ⟨w.heap.size, 0, none⟩), .int .u64 150]) (w.alloc (.cells #[.pointer (some e)] 98)) := by kernel_rfl

theorem asf_elemOf27 (w : World) : (Rtype.elem? 100).run Tryz.prog w = .ok (some 98) w := by kernel_rfl
theorem asf_mk25 (p : Addr) (w : World) : (ReflectliteValue.mk 98 p ReflectliteValue.flagAddr).run Tryz.prog w = .ok (.agg #[.pointer (some ⟨1, 98, none⟩), .pointer (some p), .int .u64 406]) w := by kernel_rfl
theorem asf_elemV27 (a p : Addr) (W : World) (ha : W.cell? a = some (.pointer (some p))) :
    (ReflectliteValue.method (ReflectliteValue.valueError "reflectlite.Value.Elem" 0) ReflectliteValue.elem #[.agg #[.pointer (some ⟨1, 100, none⟩), .pointer (some a), .int .u64 150]]).run Tryz.prog W
     = .ok (.agg #[.pointer (some ⟨1, 98, none⟩), .pointer (some p), .int .u64 406]) W := by
 rw [rlm]
 simp only [Sem.run_bind, asf_parts27, Result.andThen]
 simp [ReflectliteValue.elem, loadVar, isAgg, underlying, Tryz.underlying100, ha, Result.andThen, asf_elemOf27, asf_mk25]
theorem rls (v x : Value) : ReflectliteValue.set #[v, x] = (do
    let (some (dst, a, fl), some (src, b, _)) := (← ReflectliteValue.parts v, ← ReflectliteValue.parts x)
     | unsupported (.noEntry "extern/(internal/reflectlite.Value).Set.zeroValue")
    if fl / ReflectliteValue.flagAddr % 2 == 0 then unsupported (.noEntry "extern/(internal/reflectlite.Value).Set.unaddressable")
    let val ← loadVar src b
    if ← Rtype.directlyAssignable dst src then storeVar dst a val
    else if ← Rtype.implements dst src then
     if (← Rtype.kind src) == 20 then
      match val with
      | .nilIface => unsupported (.noEntry "extern/reflectlite: a nil value of one interface type handed on as a value of another")
      | _ => storeVar dst a val
     else storeVar dst a (.iface src val)
    else panicString ("reflectlite.Set: value of type " ++ (← Rtype.spelt src) ++ " is not assignable to type " ++ (← Rtype.spelt dst))
    pure (.tuple #[])) := rfl
theorem asf_parts25a (a : Addr) (w : World) : (ReflectliteValue.parts (.agg #[.pointer (some ⟨1, 98, none⟩), .pointer (some a), .int .u64 406])).run Tryz.prog w = .ok (some (98, a, 406)) w := by kernel_rfl
theorem asf_parts25 (a : Addr) (w : World) : (ReflectliteValue.parts (.agg #[.pointer (some ⟨1, 98, none⟩), .pointer (some a), .int .u64 150])).run Tryz.prog w = .ok (some (98, a, 150)) w := by kernel_rfl
theorem asf_direct25 (w : World) : (Rtype.directlyAssignable 98 98).run Tryz.prog w = .ok true w := by kernel_rfl
theorem asf_set25 (ta b e : Addr) (old : Value) (W : World) (hb : W.cell? b = some (.pointer (some e))) (ht : W.cell? ta = some old) (hf : W.frozen? ta = false) :
    (ReflectliteValue.set #[.agg #[.pointer (some ⟨1, 98, none⟩), .pointer (some ta), .int .u64 406], .agg #[.pointer (some ⟨1, 98, none⟩), .pointer (some b), .int .u64 150]]).run Tryz.prog W
     = .ok (.tuple #[]) (W.setCell ta (.pointer (some e))) := by
 rw [rls]
 simp only [Sem.run_bind, asf_parts25a, asf_parts25, Result.andThen]
 simp [ReflectliteValue.flagAddr, loadVar, isAgg, underlying, Tryz.underlying98, hb, Result.andThen, asf_direct25, storeVar, Value.cells, storeCells, Addr.add]
 rw [run_store Tryz.prog W ta _ _ (by rfl)]
 simp [ht, hf]

set_option maxHeartbeats 4000000 in
theorem as_hit (e t : Addr) (old : Value) (w : World) (hg : w.cell? ⟨0, 0, none⟩ = some (.iface 181 (.agg #[.pointer (some ⟨1, 33, none⟩)]))) (ht0 : w.cell? t = some old) (hf0 : w.frozen? t = false) :
    Calls Tryz.prog 30 #[.iface 98 (.pointer (some e)), .iface 100 (.pointer (some t))] w fun ev w' => ev = .returned (.bool true) ∧ w' = ((((w.alloc (.cells #[.pointer (some t)] 100)).alloc (.cells #[.pointer (some ⟨1, 100, none⟩), .pointer (some ⟨w.heap.size, 0, none⟩), .int .u64 150] 148)).alloc (.cells #[.pointer (some ⟨1, 100, none⟩), .pointer (some ⟨w.heap.size, 0, none⟩), .int .u64 150] 148)).alloc (.cells #[.pointer (some e)] 98)).setCell t (.pointer (some e)) := by
 have h6 := @run_callFunc_extern Tryz.prog 68 _ (fun args => ReflectliteValue.unpack (args.getD 0 (.tuple #[]))) Tryz.func68 (by kernel_rfl) (by kernel_rfl) (by kernel_rfl) (by kernel_rfl)
 have h7 := @run_callFunc_extern Tryz.prog 69 _ (ReflectliteValue.methodAny (ReflectliteValue.valueError "reflectlite.Value.Type" 0) (fun t _ _ _ => ReflectliteType.toType t)) Tryz.func69 (by kernel_rfl) (by kernel_rfl) (by kernel_rfl) (by kernel_rfl)
 have h8 := @run_callFunc_extern Tryz.prog 70 _ (ReflectliteValue.method (ReflectliteValue.valueError "reflectlite.Value.IsNil" 0) ReflectliteValue.isNil) Tryz.func70 (by kernel_rfl) (by kernel_rfl) (by kernel_rfl) (by kernel_rfl)
 have h27 := @run_callFunc_extern Tryz.prog 129 _ (ReflectliteType.abiMethod fun t => do pure (.int .u8 (← Rtype.kind t))) Tryz.func129 (by kernel_rfl) (by kernel_rfl) (by kernel_rfl) (by kernel_rfl)
 have h37 := @run_callFunc_extern Tryz.prog 142 _ (ReflectliteType.method ReflectliteType.elem) Tryz.func142 (by kernel_rfl) (by kernel_rfl) (by kernel_rfl) (by kernel_rfl)
 have h38 := @run_callFunc_extern Tryz.prog 143 _ (ReflectliteType.relation "Implements" ReflectliteType.implements_) Tryz.func143 (by kernel_rfl) (by kernel_rfl) (by kernel_rfl) (by kernel_rfl)
 have h10 := @run_callFunc_extern Tryz.prog 72 _ ReflectliteType.typeOf Tryz.func72 (by kernel_rfl) (by kernel_rfl) (by kernel_rfl) (by kernel_rfl)
 have h35 := @run_callFunc_extern Tryz.prog 140 _ (ReflectliteType.relation "AssignableTo" ReflectliteType.assignableTo) Tryz.func140 (by kernel_rfl) (by kernel_rfl) (by kernel_rfl) (by kernel_rfl)
 have h11 := @run_callFunc_extern Tryz.prog 94 _ (ReflectliteValue.method (ReflectliteValue.valueError "reflectlite.Value.Elem" 0) ReflectliteValue.elem) Tryz.func94 (by kernel_rfl) (by kernel_rfl) (by kernel_rfl) (by kernel_rfl)
 have h12 := @run_callFunc_extern Tryz.prog 95 _ ReflectliteValue.set Tryz.func95 (by kernel_rfl) (by kernel_rfl) (by kernel_rfl) (by kernel_rfl)
 have tO := asf_typeOf25
 have mA := asf_methodAssignableTo
 have a25 := asf_assignable25
 have v25 := asf_valueOf25
 have f6 := asf_valueOf27
 have f7 := asf_type27
 have mK := asf_methodKind
 have mE := asf_methodElem
 have mI := asf_methodImplements
 have k27 := asf_kind27
 have k25 := asf_kind25
 have e27 := asf_elem27
 have i25 := asf_implements25
 have n8 := asf_isNil27 ⟨w.heap.size, 0, none⟩ t ((w.alloc (.cells #[.pointer (some t)] 100)).alloc (.cells #[.pointer (some ⟨1, 100, none⟩), .pointer (some ⟨w.heap.size, 0, none⟩), .int .u64 150] 148)) (by simp)
 have hlt : 0 < w.heap.size := by
  rcases Nat.eq_zero_or_pos w.heap.size with h0 | h
  ·simp [World.cell?, h0] at hg
  ·exact h
 have hg2 : ((w.alloc (.cells #[.pointer (some t)] 100)).alloc (.cells #[.pointer (some ⟨1, 100, none⟩), .pointer (some ⟨w.heap.size, 0, none⟩), .int .u64 150] 148)).cell? ⟨0, 0, none⟩ = some (.iface 181 (.agg #[.pointer (some ⟨1, 33, none⟩)])) := by
  rw [World.cell?_alloc_lt _ _ ⟨0, 0, none⟩ (by simp), World.cell?_alloc_lt _ _ ⟨0, 0, none⟩ hlt]; exact hg
 have htl : t.block < w.heap.size := by
  rcases Nat.lt_or_ge t.block w.heap.size with h | h
  ·exact h
  ·simp [World.cell?, Array.getElem?_eq_none h] at ht0
 have el := asf_elemV27 ⟨w.heap.size, 0, none⟩ t (((w.alloc (.cells #[.pointer (some t)] 100)).alloc (.cells #[.pointer (some ⟨1, 100, none⟩), .pointer (some ⟨w.heap.size, 0, none⟩), .int .u64 150] 148)).alloc (.cells #[.pointer (some ⟨1, 100, none⟩), .pointer (some ⟨w.heap.size, 0, none⟩), .int .u64 150] 148)) (by rw [World.cell?_alloc_lt _ _ ⟨w.heap.size, 0, none⟩ (by simp; omega)]; simp)
 have st := asf_set25 t ⟨w.heap.size + 1 + 1 + 1, 0, none⟩ e old ((((w.alloc (.cells #[.pointer (some t)] 100)).alloc (.cells #[.pointer (some ⟨1, 100, none⟩), .pointer (some ⟨w.heap.size, 0, none⟩), .int .u64 150] 148)).alloc (.cells #[.pointer (some ⟨1, 100, none⟩), .pointer (some ⟨w.heap.size, 0, none⟩), .int .u64 150] 148)).alloc (.cells #[.pointer (some e)] 98))
  (by rw [World.cell?_alloc_at _ _ _ _ (by simp)]; rfl)
  (by rw [World.cell?_alloc_lt _ _ t (by simp; omega), World.cell?_alloc_lt _ _ t (by simp; omega), World.cell?_alloc_lt _ _ t (by simp; omega), World.cell?_alloc_lt _ _ t htl]; exact ht0)
  (by rw [World.frozen?_alloc_old _ _ t (by simp; omega), World.frozen?_alloc_old _ _ t (by simp; omega), World.frozen?_alloc_old _ _ t (by simp; omega), World.frozen?_alloc_old _ _ t (Nat.ne_of_lt htl)]; exact hf0)
 go_enter Tryz.func30, Tryz.ntmps30
 go_wp2
 refine wp_loop_rounds 1 ?_
 rw [rounds_succ]
 go_wp2
 go_ret
 exact ⟨rfl, rfl⟩
theorem setCell_rowed (w : World) (b o : Nat) (v : Value) : Rowed w (w.setCell ⟨b, o, none⟩ v) b := setCells_rowed b [v] o w
theorem Inv.pushed {G : Ghost} {m : M} {w : World} (hI : Inv G m w) (o : Obj) : ∃ G', Inv G' m (w.alloc o) ∧ Ext G w G' (w.alloc o) ∧ G'.nb = G.nb ∧ G'.box = G.box ∧ G'.mp = G.mp := by
 obtain ⟨h1, h2⟩ := hI.push (Pushed.alloc w o) (fun _ => False)
 exact ⟨_, h2, h1, rfl, rfl, rfl⟩
set_option maxHeartbeats 1000000 in
theorem as_any (cells : List PV) (m : M) (id : Nat) (x : PV) (hid : m.get id = some [x]) :
    ACalls Tryz.prog 30 [.ifc 98 (.ep cells), .ifc 100 (.bp id 0)] m (fun v m' => v = .v (.bool true) ∧ m' = m.upd id [.ep cells]) := by
 refine ⟨by kernel_rfl, fun G w vs hI hl hr => ?_⟩
 obtain ⟨v0, v1, rfl⟩ : ∃ v0 v1, vs = [v0, v1] := by
  match vs, hl with
  | [v0, v1], _ => exact ⟨v0, v1, rfl⟩
 have h0 := hr 0 (by simp) (by simp)
 have h1 := hr 1 (by simp) (by simp)
 simp only [List.getElem_cons_zero, List.getElem_cons_succ] at h0 h1
 obtain ⟨y0, rfl, hep⟩ : ∃ y0, v0 = .iface 98 y0 ∧ Rep G w (.ep cells) y0 := by
  cases h0 with
  | ifc _ _ y h => exact ⟨y, rfl, h⟩
 obtain ⟨ad, rfl⟩ : ∃ ad, y0 = .pointer (some ad) := by
  obtain ⟨b, off, c, rfl, _⟩ := ep_inv hep
  exact ⟨_, rfl⟩
 obtain ⟨rfl, hm, hnb⟩ : v1 = .iface 100 (.pointer (some ⟨G.box id, 0, none⟩)) ∧ G.mp id = false ∧ id < G.nb := by
  cases h1 with
  | ifc _ _ y h =>
   cases h with
   | bp _ _ q1 q2 => exact ⟨rfl, q2, q1⟩
 obtain ⟨cs, e, k1, k2, k3, k4, k5⟩ := hI.boxC hid hm
 obtain ⟨u, rfl⟩ := List.length_eq_one_iff.1 (k2.symm.trans rfl)
 have ht : w.cell? ⟨G.box id, 0, none⟩ = some u := by simp [World.cell?, k1]
 have hf : w.frozen? ⟨G.box id, 0, none⟩ = false := by simp [World.frozen?, k1]
 have hg : w.cell? ⟨0, 0, none⟩ = some (.iface 181 (.agg #[.pointer (some ⟨1, 33, none⟩)])) := by
  obtain ⟨u0, e1, e2⟩ := (hI.lay (0, fun v => v = .iface 181 (.agg #[.pointer (some ⟨1, 33, none⟩)])) (by simp only [laidC]; exact List.mem_cons_self)).1
  rw [e1]
  exact congrArg some e2
 refine (as_hit ad ⟨G.box id, 0, none⟩ u w hg ht hf).mono ?_
 rintro ev w' ⟨rfl, rfl⟩
 obtain ⟨G1, i1, e1, a1, b1, c1⟩ := hI.pushed (.cells #[.pointer (some ⟨G.box id, 0, none⟩)] 100)
 obtain ⟨G2, i2, e2, a2, b2, c2⟩ := i1.pushed (.cells #[.pointer (some ⟨1, 100, none⟩), .pointer (some ⟨w.heap.size, 0, none⟩), .int .u64 150] 148)
 obtain ⟨G3, i3, e3, a3, b3, c3⟩ := i2.pushed (.cells #[.pointer (some ⟨1, 100, none⟩), .pointer (some ⟨w.heap.size, 0, none⟩), .int .u64 150] 148)
 obtain ⟨G4, i4, e4, a4, b4, c4⟩ := i3.pushed (.cells #[.pointer (some ad)] 98)
 have hE := ((e1.trans e2).trans e3).trans e4
 have hbx : G4.box id = G.box id := by rw [b4, b3, b2, b1]
 have hmp : G4.mp id = false := by rw [c4, c3, c2, c1]; exact hm
 have k1' : ∀ {w : World} (o : Obj), w.heap[G.box id]? = some (.cells #[u] e (0, 0)) → (w.alloc o).heap[G.box id]? = some (.cells #[u] e (0, 0)) := fun {w} o h =>
  ((Pushed.alloc w o).old (Array.getElem?_eq_some_iff.1 h).1).trans h
 have hb5 := one_setCell (u := .pointer (some ad)) (k1' (.cells #[.pointer (some ad)] 98) (k1' (.cells #[.pointer (some ⟨1, 100, none⟩), .pointer (some ⟨w.heap.size, 0, none⟩), .int .u64 150] 148) (k1' (.cells #[.pointer (some ⟨1, 100, none⟩), .pointer (some ⟨w.heap.size, 0, none⟩), .int .u64 150] 148) (k1' (.cells #[.pointer (some ⟨G.box id, 0, none⟩)] 100) k1))))
 have hrow := setCell_rowed ((((w.alloc (.cells #[.pointer (some ⟨G.box id, 0, none⟩)] 100)).alloc (.cells #[.pointer (some ⟨1, 100, none⟩), .pointer (some ⟨w.heap.size, 0, none⟩), .int .u64 150] 148)).alloc (.cells #[.pointer (some ⟨1, 100, none⟩), .pointer (some ⟨w.heap.size, 0, none⟩), .int .u64 150] 148)).alloc (.cells #[.pointer (some ad)] 98)) (G4.box id) 0 (.pointer (some ad))
 obtain ⟨hE5, hI5⟩ := i4.store (c' := [.ep cells]) hid hmp hrow [.pointer (some ad)] e (by rw [hbx]; exact hb5) rfl (fun j q1 q2 => by
  obtain rfl : j = 0 := by simp at q1; omega
  exact hep.mono hE) (fun v hv => by
  obtain rfl := List.mem_singleton.1 hv
  rfl)
 rw [hbx] at hE5 hI5
 exact .inl ⟨_, .v (.bool true), _, _, rfl, ⟨rfl, rfl⟩, .v rfl, hI5, hE.trans hE5⟩
end Go.Proofs.YthhhnfjcaicjnaaGreatDoor
