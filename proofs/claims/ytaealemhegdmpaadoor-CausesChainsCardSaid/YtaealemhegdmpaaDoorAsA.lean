/-
  Texts that belong together: AbAs, AbAs2.
-/
import Derived.Test.YtaealemhegdmpaaDoorGD
import Derived.Test.YtaealemhegdmpaaDoorChecked
import Derived.WalkKit
import Derived.LaidEql
import Derived.Stop.Asserts
import Derived.RowKitTokens
import Derived.OneCell
/-
  errors.As of an At, its target a pointer to an At: it is told, and the target is laid.
-/
set_option linter.unusedVariables false
set_option linter.unusedSimpArgs false
namespace Go.Proofs.YtaealemhegdmpaaDoor
open Go Go.RowKit Go.Extern.Stop Go.Stop Go.Extern

theorem asf_valueOf27 (t : Addr) (w : World) : (ReflectliteValue.unpack (.iface 79 (.pointer (some t)))).run Tryd.prog w
    = .ok (.agg #[.pointer (some ⟨1, 79, none⟩), .pointer (some ⟨w.heap.size, 0, none⟩), .int .u64 150]) (w.alloc (.cells #[.pointer (some t)] 79)) := by kernel_rfl
theorem asf_type27 (a : Addr) (w : World) : (ReflectliteValue.methodAny (ReflectliteValue.valueError "reflectlite.Value.Type" 0) (fun t _ _ _ => ReflectliteType.toType t) #[.agg #[.pointer (some ⟨1, 79, none⟩), .pointer (some a), .int .u64 150]]).run Tryd.prog w
    = .ok (.iface 133 (.agg #[.pointer (some ⟨1, 79, none⟩)])) w := by kernel_rfl
theorem asf_methodKind (h : Value) (w : World) : (Go.method 294 133 (.agg #[h]) "Kind").run Tryd.prog w = .ok (81, h) w := by kernel_rfl
theorem asf_kind27 (w : World) : ((ReflectliteType.abiMethod fun t => (fun a : Nat => Value.int IntKind.u8 (a : Int)) <$> Rtype.kind t) #[.pointer (some ⟨1, 79, none⟩)]).run Tryd.prog w = .ok (.int .u8 22) w := by kernel_rfl
theorem asf_kind25 (w : World) : ((ReflectliteType.abiMethod fun t => (fun a : Nat => Value.int IntKind.u8 (a : Int)) <$> Rtype.kind t) #[.pointer (some ⟨1, 77, none⟩)]).run Tryd.prog w = .ok (.int .u8 22) w := by kernel_rfl

theorem rlm (z : Sem Value) (f : TypeId → Addr → Nat → Nat → Sem Value) (v : Value) :
    ReflectliteValue.method z f #[v] = (do match ← ReflectliteValue.parts v with | none => z | some (t, a, fl) => f t a fl (fl % 32)) := rfl
theorem asf_parts27 (a : Addr) (w : World) : (ReflectliteValue.parts (.agg #[.pointer (some ⟨1, 79, none⟩), .pointer (some a), .int .u64 150])).run Tryd.prog w = .ok (some (79, a, 150)) w := by kernel_rfl
theorem asf_isNil27 (a p : Addr) (W : World) (ha : W.cell? a = some (.pointer (some p))) :
    (ReflectliteValue.method (ReflectliteValue.valueError "reflectlite.Value.IsNil" 0) ReflectliteValue.isNil #[.agg #[.pointer (some ⟨1, 79, none⟩), .pointer (some a), .int .u64 150]]).run Tryd.prog W = .ok (.bool false) W := by
  rw [rlm]
  simp only [Sem.run_bind, asf_parts27, Result.andThen]
  simp [ReflectliteValue.isNil, loadVar, isAgg, underlying, Tryd.underlying79, ha, Result.andThen]

theorem asf_methodElem (h : Value) (w : World) : (Go.method 294 133 (.agg #[h]) "Elem").run Tryd.prog w = .ok (93, .agg #[h]) w := by kernel_rfl
theorem asf_methodImplements (h : Value) (w : World) : (Go.method 294 133 (.agg #[h]) "Implements").run Tryd.prog w = .ok (94, .agg #[h]) w := by kernel_rfl
theorem asf_methodAssignableTo (h : Value) (w : World) : (Go.method 294 133 (.agg #[h]) "AssignableTo").run Tryd.prog w = .ok (91, .agg #[h]) w := by kernel_rfl
theorem asf_elem27 (w : World) : (ReflectliteType.method ReflectliteType.elem #[.agg #[.pointer (some ⟨1, 79, none⟩)]]).run Tryd.prog w = .ok (.iface 133 (.agg #[.pointer (some ⟨1, 77, none⟩)])) w := by kernel_rfl
theorem asf_implements25 (w : World) : (ReflectliteType.relation "Implements" ReflectliteType.implements_ #[.agg #[.pointer (some ⟨1, 77, none⟩)], .iface 133 (.agg #[.pointer (some ⟨1, 31, none⟩)])]).run Tryd.prog w = .ok (.bool true) w := by kernel_rfl
theorem asf_typeOf25 (v : Value) (w : World) : (ReflectliteType.typeOf #[.iface 77 v]).run Tryd.prog w = .ok (.iface 133 (.agg #[.pointer (some ⟨1, 77, none⟩)])) w := by kernel_rfl
theorem asf_assignable25 (w : World) : (ReflectliteType.relation "AssignableTo" ReflectliteType.assignableTo #[.agg #[.pointer (some ⟨1, 77, none⟩)], .iface 133 (.agg #[.pointer (some ⟨1, 77, none⟩)])]).run Tryd.prog w = .ok (.bool true) w := by kernel_rfl
theorem asf_valueOf25 (e : Addr) (w : World) : (ReflectliteValue.unpack (.iface 77 (.pointer (some e)))).run Tryd.prog w
    = .ok (.agg #[.pointer (some ⟨1, 77, none⟩), .pointer (some ⟨w.heap.size, 0, none⟩), .int .u64 150]) (w.alloc (.cells #[.pointer (some e)] 77)) := by kernel_rfl

theorem asf_elemOf27 (w : World) : (Rtype.elem? 79).run Tryd.prog w = .ok (some 77) w := by kernel_rfl
theorem asf_mk25 (p : Addr) (w : World) : (ReflectliteValue.mk 77 p ReflectliteValue.flagAddr).run Tryd.prog w = .ok (.agg #[.pointer (some ⟨1, 77, none⟩), .pointer (some p), .int .u64 406]) w := by kernel_rfl
theorem asf_elemV27 (a p : Addr) (W : World) (ha : W.cell? a = some (.pointer (some p))) :
    (ReflectliteValue.method (ReflectliteValue.valueError "reflectlite.Value.Elem" 0) ReflectliteValue.elem #[.agg #[.pointer (some ⟨1, 79, none⟩), .pointer (some a), .int .u64 150]]).run Tryd.prog W
      = .ok (.agg #[.pointer (some ⟨1, 77, none⟩), .pointer (some p), .int .u64 406]) W := by
  rw [rlm]
  simp only [Sem.run_bind, asf_parts27, Result.andThen]
  simp [ReflectliteValue.elem, loadVar, isAgg, underlying, Tryd.underlying79, ha, Result.andThen, asf_elemOf27, asf_mk25]
theorem rls (v x : Value) : ReflectliteValue.set #[v, x] = (do
    let (some (dst, a, fl), some (src, b, _)) := (← ReflectliteValue.parts v, ← ReflectliteValue.parts x)
      | unsupported (.noEntry "extern/(internal/reflectlite.Value).Set.zeroValue")
    if fl / ReflectliteValue.flagAddr % 2 == 0 then unsupported (.noEntry "extern/(internal/reflectlite.Value).Set.unaddressable")
    let val ← loadVar src b
    if ← Rtype.directlyAssignable dst src then storeVar dst a val
    else if ← Rtype.implements dst src then
      if (← Rtype.kind src) == 20 then
        match val with
        | .nilIface => unsupported (.noEntry "extern/reflectlite: a nil value of one interface type handed on as a value of another")
        | _ => storeVar dst a val
      else storeVar dst a (.iface src val)
    else panicString ("reflectlite.Set: value of type " ++ (← Rtype.spelt src) ++ " is not assignable to type " ++ (← Rtype.spelt dst))
    pure (.tuple #[])) := rfl
theorem asf_parts25a (a : Addr) (w : World) : (ReflectliteValue.parts (.agg #[.pointer (some ⟨1, 77, none⟩), .pointer (some a), .int .u64 406])).run Tryd.prog w = .ok (some (77, a, 406)) w := by kernel_rfl
theorem asf_parts25 (a : Addr) (w : World) : (ReflectliteValue.parts (.agg #[.pointer (some ⟨1, 77, none⟩), .pointer (some a), .int .u64 150])).run Tryd.prog w = .ok (some (77, a, 150)) w := by kernel_rfl
theorem asf_direct25 (w : World) : (Rtype.directlyAssignable 77 77).run Tryd.prog w = .ok true w := by kernel_rfl
theorem asf_set25 (ta b e : Addr) (old : Value) (W : World) (hb : W.cell? b = some (.pointer (some e))) (ht : W.cell? ta = some old) (hf : W.frozen? ta = false) :
    (ReflectliteValue.set #[.agg #[.pointer (some ⟨1, 77, none⟩), .pointer (some ta), .int .u64 406], .agg #[.pointer (some ⟨1, 77, none⟩), .pointer (some b), .int .u64 150]]).run Tryd.prog W
      = .ok (.tuple #[]) (W.setCell ta (.pointer (some e))) := by
  rw [rls]
  simp only [Sem.run_bind, asf_parts25a, asf_parts25, Result.andThen]
  simp [ReflectliteValue.flagAddr, loadVar, isAgg, underlying, Tryd.underlying77, hb, Result.andThen, asf_direct25, storeVar, Value.cells, storeCells, Addr.add]
  rw [run_store Tryd.prog W ta _ _ (by rfl)]
  simp [ht, hf]

set_option maxHeartbeats 4000000 in
theorem as_hit (e t : Addr) (old : Value) (w : World) (hg : w.cell? ⟨0, 0, none⟩ = some (.iface 133 (.agg #[.pointer (some ⟨1, 31, none⟩)]))) (ht0 : w.cell? t = some old) (hf0 : w.frozen? t = false) :
    Calls Tryd.prog 15 #[.iface 77 (.pointer (some e)), .iface 79 (.pointer (some t))] w fun ev w' => ev = .returned (.bool true) ∧ w' = ((((w.alloc (.cells #[.pointer (some t)] 79)).alloc (.cells #[.pointer (some ⟨1, 79, none⟩), .pointer (some ⟨w.heap.size, 0, none⟩), .int .u64 150] 102)).alloc (.cells #[.pointer (some ⟨1, 79, none⟩), .pointer (some ⟨w.heap.size, 0, none⟩), .int .u64 150] 102)).alloc (.cells #[.pointer (some e)] 77)).setCell t (.pointer (some e)) := by
  have h6 := @run_callFunc_extern Tryd.prog 26 _ (fun args => ReflectliteValue.unpack (args.getD 0 (.tuple #[]))) Tryd.func26 (by kernel_rfl) (by kernel_rfl) (by kernel_rfl) (by kernel_rfl)
  have h7 := @run_callFunc_extern Tryd.prog 27 _ (ReflectliteValue.methodAny (ReflectliteValue.valueError "reflectlite.Value.Type" 0) (fun t _ _ _ => ReflectliteType.toType t)) Tryd.func27 (by kernel_rfl) (by kernel_rfl) (by kernel_rfl) (by kernel_rfl)
  have h8 := @run_callFunc_extern Tryd.prog 28 _ (ReflectliteValue.method (ReflectliteValue.valueError "reflectlite.Value.IsNil" 0) ReflectliteValue.isNil) Tryd.func28 (by kernel_rfl) (by kernel_rfl) (by kernel_rfl) (by kernel_rfl)
  have h27 := @run_callFunc_extern Tryd.prog 81 _ (ReflectliteType.abiMethod fun t => do pure (.int .u8 (← Rtype.kind t))) Tryd.func81 (by kernel_rfl) (by kernel_rfl) (by kernel_rfl) (by kernel_rfl)
  have h37 := @run_callFunc_extern Tryd.prog 93 _ (ReflectliteType.method ReflectliteType.elem) Tryd.func93 (by kernel_rfl) (by kernel_rfl) (by kernel_rfl) (by kernel_rfl)
  have h38 := @run_callFunc_extern Tryd.prog 94 _ (ReflectliteType.relation "Implements" ReflectliteType.implements_) Tryd.func94 (by kernel_rfl) (by kernel_rfl) (by kernel_rfl) (by kernel_rfl)
  have h10 := @run_callFunc_extern Tryd.prog 30 _ ReflectliteType.typeOf Tryd.func30 (by kernel_rfl) (by kernel_rfl) (by kernel_rfl) (by kernel_rfl)
  have h35 := @run_callFunc_extern Tryd.prog 91 _ (ReflectliteType.relation "AssignableTo" ReflectliteType.assignableTo) Tryd.func91 (by kernel_rfl) (by kernel_rfl) (by kernel_rfl) (by kernel_rfl)
  have h11 := @run_callFunc_extern Tryd.prog 43 _ (ReflectliteValue.method (ReflectliteValue.valueError "reflectlite.Value.Elem" 0) ReflectliteValue.elem) Tryd.func43 (by kernel_rfl) (by kernel_rfl) (by kernel_rfl) (by kernel_rfl)
  have h12 := @run_callFunc_extern Tryd.prog 44 _ ReflectliteValue.set Tryd.func44 (by kernel_rfl) (by kernel_rfl) (by kernel_rfl) (by kernel_rfl)
  have tO := asf_typeOf25
  have mA := asf_methodAssignableTo
  have a25 := asf_assignable25
  have v25 := asf_valueOf25
  have f6 := asf_valueOf27
  have f7 := asf_type27
  have mK := asf_methodKind
  have mE := asf_methodElem
  have mI := asf_methodImplements
  have k27 := asf_kind27
  have k25 := asf_kind25
  have e27 := asf_elem27
  have i25 := asf_implements25
  have n8 := asf_isNil27 ⟨w.heap.size, 0, none⟩ t ((w.alloc (.cells #[.pointer (some t)] 79)).alloc (.cells #[.pointer (some ⟨1, 79, none⟩), .pointer (some ⟨w.heap.size, 0, none⟩), .int .u64 150] 102)) (by simp)
  have hlt : 0 < w.heap.size := by
    rcases Nat.eq_zero_or_pos w.heap.size with h0 | h
    · simp [World.cell?, h0] at hg
    · exact h
  have hg2 : ((w.alloc (.cells #[.pointer (some t)] 79)).alloc (.cells #[.pointer (some ⟨1, 79, none⟩), .pointer (some ⟨w.heap.size, 0, none⟩), .int .u64 150] 102)).cell? ⟨0, 0, none⟩ = some (.iface 133 (.agg #[.pointer (some ⟨1, 31, none⟩)])) := by
    rw [World.cell?_alloc_lt _ _ ⟨0, 0, none⟩ (by simp), World.cell?_alloc_lt _ _ ⟨0, 0, none⟩ hlt]; exact hg
  have htl : t.block < w.heap.size := by
    rcases Nat.lt_or_ge t.block w.heap.size with h | h
    · exact h
    · simp [World.cell?, Array.getElem?_eq_none h] at ht0
  have el := asf_elemV27 ⟨w.heap.size, 0, none⟩ t (((w.alloc (.cells #[.pointer (some t)] 79)).alloc (.cells #[.pointer (some ⟨1, 79, none⟩), .pointer (some ⟨w.heap.size, 0, none⟩), .int .u64 150] 102)).alloc (.cells #[.pointer (some ⟨1, 79, none⟩), .pointer (some ⟨w.heap.size, 0, none⟩), .int .u64 150] 102)) (by rw [World.cell?_alloc_lt _ _ ⟨w.heap.size, 0, none⟩ (by simp; omega)]; simp)
  have st := asf_set25 t ⟨w.heap.size + 1 + 1 + 1, 0, none⟩ e old ((((w.alloc (.cells #[.pointer (some t)] 79)).alloc (.cells #[.pointer (some ⟨1, 79, none⟩), .pointer (some ⟨w.heap.size, 0, none⟩), .int .u64 150] 102)).alloc (.cells #[.pointer (some ⟨1, 79, none⟩), .pointer (some ⟨w.heap.size, 0, none⟩), .int .u64 150] 102)).alloc (.cells #[.pointer (some e)] 77))
    (by rw [World.cell?_alloc_at _ _ _ _ (by simp)]; rfl)
    (by rw [World.cell?_alloc_lt _ _ t (by simp; omega), World.cell?_alloc_lt _ _ t (by simp; omega), World.cell?_alloc_lt _ _ t (by simp; omega), World.cell?_alloc_lt _ _ t htl]; exact ht0)
    (by rw [World.frozen?_alloc_old _ _ t (by simp; omega), World.frozen?_alloc_old _ _ t (by simp; omega), World.frozen?_alloc_old _ _ t (by simp; omega), World.frozen?_alloc_old _ _ t (Nat.ne_of_lt htl)]; exact hf0)
  go_enter Tryd.func15, Tryd.ntmps15
  go_wp2
  refine wp_loop_rounds 1 ?_
  rw [rounds_succ]
  go_wp2
  go_ret
  exact ⟨rfl, rfl⟩
end Go.Proofs.YtaealemhegdmpaaDoor

/-
  errors.As of an At as a contract, and for the run.
-/
set_option linter.unusedVariables false
set_option linter.unusedSimpArgs false
namespace Go.Proofs.YtaealemhegdmpaaDoor
open Go Go.RowKit

theorem setCell_rowed (w : World) (b o : Nat) (v : Value) : Rowed w (w.setCell ⟨b, o, none⟩ v) b := setCells_rowed b [v] o w
/-- A new block that nothing names. -/
theorem Inv.pushed {G : Ghost} {m : M} {w : World} (hI : Inv G m w) (o : Obj) : ∃ G', Inv G' m (w.alloc o) ∧ Ext G w G' (w.alloc o) ∧ G'.nb = G.nb ∧ G'.box = G.box ∧ G'.mp = G.mp := by
  obtain ⟨h1, h2⟩ := hI.push (Pushed.alloc w o) (fun _ => False)
  exact ⟨_, h2, h1, rfl, rfl, rfl⟩
set_option maxHeartbeats 1000000 in
theorem as_any (cells : List PV) (m : M) (id : Nat) (x : PV) (hid : m.get id = some [x]) :
    ACalls Tryd.prog 15 [.ifc 77 (.ep cells), .ifc 79 (.bp id 0)] m (fun v m' => v = .v (.bool true) ∧ m' = m.upd id [.ep cells]) := by
  refine ⟨by kernel_rfl, fun G w vs hI hl hr => ?_⟩
  obtain ⟨v0, v1, rfl⟩ : ∃ v0 v1, vs = [v0, v1] := by
    match vs, hl with
    | [v0, v1], _ => exact ⟨v0, v1, rfl⟩
  have h0 := hr 0 (by simp) (by simp)
  have h1 := hr 1 (by simp) (by simp)
  simp only [List.getElem_cons_zero, List.getElem_cons_succ] at h0 h1
  obtain ⟨y0, rfl, hep⟩ : ∃ y0, v0 = .iface 77 y0 ∧ Rep G w (.ep cells) y0 := by
    cases h0 with
    | ifc _ _ y h => exact ⟨y, rfl, h⟩
  obtain ⟨ad, rfl⟩ : ∃ ad, y0 = .pointer (some ad) := by
    obtain ⟨b, off, c, rfl, _⟩ := ep_inv hep
    exact ⟨_, rfl⟩
  obtain ⟨rfl, hm, hnb⟩ : v1 = .iface 79 (.pointer (some ⟨G.box id, 0, none⟩)) ∧ G.mp id = false ∧ id < G.nb := by
    cases h1 with
    | ifc _ _ y h =>
      cases h with
      | bp _ _ q1 q2 => exact ⟨rfl, q2, q1⟩
  obtain ⟨cs, e, k1, k2, k3, k4, k5⟩ := hI.boxC hid hm
  obtain ⟨u, rfl⟩ := List.length_eq_one_iff.1 (k2.symm.trans rfl)
  have ht : w.cell? ⟨G.box id, 0, none⟩ = some u := by simp [World.cell?, k1]
  have hf : w.frozen? ⟨G.box id, 0, none⟩ = false := by simp [World.frozen?, k1]
  have hg : w.cell? ⟨0, 0, none⟩ = some (.iface 133 (.agg #[.pointer (some ⟨1, 31, none⟩)])) := by
    obtain ⟨u0, e1, e2⟩ := (hI.lay (0, fun v => v = .iface 133 (.agg #[.pointer (some ⟨1, 31, none⟩)])) (by simp only [laidC]; exact List.mem_cons_self)).1
    rw [e1]
    exact congrArg some e2
  refine (as_hit ad ⟨G.box id, 0, none⟩ u w hg ht hf).mono ?_
  rintro ev w' ⟨rfl, rfl⟩
  obtain ⟨G1, i1, e1, a1, b1, c1⟩ := hI.pushed (.cells #[.pointer (some ⟨G.box id, 0, none⟩)] 79)
  obtain ⟨G2, i2, e2, a2, b2, c2⟩ := i1.pushed (.cells #[.pointer (some ⟨1, 79, none⟩), .pointer (some ⟨w.heap.size, 0, none⟩), .int .u64 150] 102)
  obtain ⟨G3, i3, e3, a3, b3, c3⟩ := i2.pushed (.cells #[.pointer (some ⟨1, 79, none⟩), .pointer (some ⟨w.heap.size, 0, none⟩), .int .u64 150] 102)
  obtain ⟨G4, i4, e4, a4, b4, c4⟩ := i3.pushed (.cells #[.pointer (some ad)] 77)
  have hE := ((e1.trans e2).trans e3).trans e4
  have hbx : G4.box id = G.box id := by rw [b4, b3, b2, b1]
  have hmp : G4.mp id = false := by rw [c4, c3, c2, c1]; exact hm
  have k1' : ∀ {w : World} (o : Obj), w.heap[G.box id]? = some (.cells #[u] e (0, 0)) → (w.alloc o).heap[G.box id]? = some (.cells #[u] e (0, 0)) := fun {w} o h =>
    ((Pushed.alloc w o).old (Array.getElem?_eq_some_iff.1 h).1).trans h
  have hb5 := one_setCell (u := .pointer (some ad)) (k1' (.cells #[.pointer (some ad)] 77) (k1' (.cells #[.pointer (some ⟨1, 79, none⟩), .pointer (some ⟨w.heap.size, 0, none⟩), .int .u64 150] 102) (k1' (.cells #[.pointer (some ⟨1, 79, none⟩), .pointer (some ⟨w.heap.size, 0, none⟩), .int .u64 150] 102) (k1' (.cells #[.pointer (some ⟨G.box id, 0, none⟩)] 79) k1))))
  have hrow := setCell_rowed ((((w.alloc (.cells #[.pointer (some ⟨G.box id, 0, none⟩)] 79)).alloc (.cells #[.pointer (some ⟨1, 79, none⟩), .pointer (some ⟨w.heap.size, 0, none⟩), .int .u64 150] 102)).alloc (.cells #[.pointer (some ⟨1, 79, none⟩), .pointer (some ⟨w.heap.size, 0, none⟩), .int .u64 150] 102)).alloc (.cells #[.pointer (some ad)] 77)) (G4.box id) 0 (.pointer (some ad))
  obtain ⟨hE5, hI5⟩ := i4.store (c' := [.ep cells]) hid hmp hrow [.pointer (some ad)] e (by rw [hbx]; exact hb5) rfl (fun j q1 q2 => by
    obtain rfl : j = 0 := by simp at q1; omega
    exact hep.mono hE) (fun v hv => by
    obtain rfl := List.mem_singleton.1 hv
    rfl)
  rw [hbx] at hE5 hI5
  exact .inl ⟨_, .v (.bool true), _, _, rfl, ⟨rfl, rfl⟩, .v rfl, hI5, hE.trans hE5⟩

/-- errors.As of an At, for the run. -/
def asHook (next : CallR) : CallR := fun g args m => if g = 15 then (match args with
  | [PV.ifc t (PV.ep cells), PV.ifc t' (PV.bp id 0)] => if t = 77 ∧ t' = 79 then (match m.get id with
    | some [_] => some (.val (.v (.bool true)) (m.upd id [.ep cells]))
    | _ => none) else none
  | _ => none) else next g args m
theorem asHook_ok {next : CallR} (hn : CallOk Tryd.prog next) : CallOk Tryd.prog (asHook next) := by
  intro g args m r h
  unfold asHook at h
  split at h
  · rename_i hg
    subst hg
    split at h
    · split at h
      · rename_i hq
        obtain ⟨rfl, rfl⟩ := hq
        split at h
        · rename_i x hx
          cases h
          exact as_any _ m _ _ hx
        · cases h
      · cases h
    · cases h
  · exact hn _ _ _ _ h
end Go.Proofs.YtaealemhegdmpaaDoor
