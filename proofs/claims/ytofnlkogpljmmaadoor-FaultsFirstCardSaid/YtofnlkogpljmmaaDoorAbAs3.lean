/-
  errors.As of a kind, its target a pointer to an At: it is none.
-/
import Derived.Test.YtofnlkogpljmmaaDoorAbAs2
set_option linter.unusedVariables false
set_option linter.unusedSimpArgs false
namespace Go.Proofs.YtofnlkogpljmmaaDoor
open Go Go.RowKit Go.Extern.Stop Go.Stop Go.Extern

theorem asf_typeOfK (v : Value) (w : World) : (ReflectliteType.typeOf #[.iface 26 v]).run Tryd.prog w = .ok (.iface 74 (.agg #[.pointer (some ⟨4, 26, none⟩)])) w := by kernel_rfl
theorem asf_assignableK (w : World) : (ReflectliteType.relation "AssignableTo" ReflectliteType.assignableTo #[.agg #[.pointer (some ⟨4, 26, none⟩)], .iface 74 (.agg #[.pointer (some ⟨4, 35, none⟩)])]).run Tryd.prog w = .ok (.bool false) w := by kernel_rfl
theorem noAsK (v : Value) (xT : TypeId) (w : World) : (Instr.typeAssert (.iface 26 v) xT 84 true).run Tryd.prog w = .ok (.tuple #[.nilIface, .bool false]) w := run_typeAssert_lacksB Tryd.underlying84 (by kernel_rfl) (by kernel_rfl) v xT w
theorem noUnK' (v : Value) (xT : TypeId) (w : World) : (Instr.typeAssert (.iface 26 v) xT 79 true).run Tryd.prog w = .ok (.tuple #[.nilIface, .bool false]) w := run_typeAssert_lacksB Tryd.underlying79 (by kernel_rfl) (by kernel_rfl) v xT w
theorem noUsK' (v : Value) (xT : TypeId) (w : World) : (Instr.typeAssert (.iface 26 v) xT 80 true).run Tryd.prog w = .ok (.tuple #[.nilIface, .bool false]) w := run_typeAssert_lacksB Tryd.underlying80 (by kernel_rfl) (by kernel_rfl) v xT w

set_option maxRecDepth 20000 in
set_option maxHeartbeats 4000000 in
theorem as_miss (k : Int) (t : Addr) (old : Value) (w : World) (hg : w.cell? ⟨0, 0, none⟩ = some (.iface 74 (.agg #[.pointer (some ⟨4, 24, none⟩)]))) (ht0 : w.cell? t = some old) :
    Calls Tryd.prog 22 #[.iface 26 (.int .i64 k), .iface 54 (.pointer (some t))] w fun ev w' => ev = .returned (.bool false) ∧ w' = (((w.alloc (.cells #[.pointer (some t)] 54)).alloc (.cells #[.pointer (some ⟨4, 54, none⟩), .pointer (some ⟨w.heap.size, 0, none⟩), .int .u64 150] 66)).alloc (.cells #[.pointer (some ⟨4, 54, none⟩), .pointer (some ⟨w.heap.size, 0, none⟩), .int .u64 150] 66)) := by
  have h6 := @run_callFunc_extern Tryd.prog 28 _ (fun args => ReflectliteValue.unpack (args.getD 0 (.tuple #[]))) Tryd.func28 (by kernel_rfl) (by kernel_rfl) (by kernel_rfl) (by kernel_rfl)
  have h7 := @run_callFunc_extern Tryd.prog 29 _ (ReflectliteValue.methodAny (ReflectliteValue.valueError "reflectlite.Value.Type" 0) (fun t _ _ _ => ReflectliteType.toType t)) Tryd.func29 (by kernel_rfl) (by kernel_rfl) (by kernel_rfl) (by kernel_rfl)
  have h8 := @run_callFunc_extern Tryd.prog 30 _ (ReflectliteValue.method (ReflectliteValue.valueError "reflectlite.Value.IsNil" 0) ReflectliteValue.isNil) Tryd.func30 (by kernel_rfl) (by kernel_rfl) (by kernel_rfl) (by kernel_rfl)
  have h27 := @run_callFunc_extern Tryd.prog 61 _ (ReflectliteType.abiMethod fun t => do pure (.int .u8 (← Rtype.kind t))) Tryd.func61 (by kernel_rfl) (by kernel_rfl) (by kernel_rfl) (by kernel_rfl)
  have h37 := @run_callFunc_extern Tryd.prog 70 _ (ReflectliteType.method ReflectliteType.elem) Tryd.func70 (by kernel_rfl) (by kernel_rfl) (by kernel_rfl) (by kernel_rfl)
  have h38 := @run_callFunc_extern Tryd.prog 71 _ (ReflectliteType.relation "Implements" ReflectliteType.implements_) Tryd.func71 (by kernel_rfl) (by kernel_rfl) (by kernel_rfl) (by kernel_rfl)
  have h10 := @run_callFunc_extern Tryd.prog 26 _ ReflectliteType.typeOf Tryd.func26 (by kernel_rfl) (by kernel_rfl) (by kernel_rfl) (by kernel_rfl)
  have h35 := @run_callFunc_extern Tryd.prog 68 _ (ReflectliteType.relation "AssignableTo" ReflectliteType.assignableTo) Tryd.func68 (by kernel_rfl) (by kernel_rfl) (by kernel_rfl) (by kernel_rfl)
  have tO := asf_typeOfK
  have mA := asf_methodAssignableTo
  have aK := asf_assignableK
  have nA := noAsK
  have uK := noUnK'
  have vK := noUsK'
  have f6 := asf_valueOf27
  have f7 := asf_type27
  have mK := asf_methodKind
  have mE := asf_methodElem
  have mI := asf_methodImplements
  have k27 := asf_kind27
  have k25 := asf_kind25
  have e27 := asf_elem27
  have i25 := asf_implements25
  have n8 := asf_isNil27 ⟨w.heap.size, 0, none⟩ t ((w.alloc (.cells #[.pointer (some t)] 54)).alloc (.cells #[.pointer (some ⟨4, 54, none⟩), .pointer (some ⟨w.heap.size, 0, none⟩), .int .u64 150] 66)) (by simp)
  have hlt : 0 < w.heap.size := by
    rcases Nat.eq_zero_or_pos w.heap.size with h0 | h
    · simp [World.cell?, h0] at hg
    · exact h
  have hg2 : ((w.alloc (.cells #[.pointer (some t)] 54)).alloc (.cells #[.pointer (some ⟨4, 54, none⟩), .pointer (some ⟨w.heap.size, 0, none⟩), .int .u64 150] 66)).cell? ⟨0, 0, none⟩ = some (.iface 74 (.agg #[.pointer (some ⟨4, 24, none⟩)])) := by
    rw [World.cell?_alloc_lt _ _ ⟨0, 0, none⟩ (by simp), World.cell?_alloc_lt _ _ ⟨0, 0, none⟩ hlt]; exact hg
  go_enter Tryd.func22, Tryd.ntmps22
  go_wp2
  refine wp_loop_rounds 1 ?_
  rw [rounds_succ]
  go_wp2
  go_ret
  exact ⟨rfl, rfl⟩
theorem asK_any (k : Int) (m : M) (id : Nat) (x : PV) (hid : m.get id = some [x]) :
    ACalls Tryd.prog 22 [.ifc 26 (.v (.int .i64 k)), .ifc 54 (.bp id 0)] m (fun v m' => v = .v (.bool false) ∧ m' = m) := by
  refine ⟨by kernel_rfl, fun G w vs hI hl hr => ?_⟩
  obtain ⟨v0, v1, rfl⟩ : ∃ v0 v1, vs = [v0, v1] := by
    match vs, hl with
    | [v0, v1], _ => exact ⟨v0, v1, rfl⟩
  have h0 := hr 0 (by simp) (by simp)
  have h1 := hr 1 (by simp) (by simp)
  simp only [List.getElem_cons_zero, List.getElem_cons_succ] at h0 h1
  obtain rfl : v0 = .iface 26 (.int .i64 k) := by
    cases h0 with
    | ifc _ _ y h => rw [h.atomEq]
  obtain ⟨rfl, hm, hnb⟩ : v1 = .iface 54 (.pointer (some ⟨G.box id, 0, none⟩)) ∧ G.mp id = false ∧ id < G.nb := by
    cases h1 with
    | ifc _ _ y h =>
      cases h with
      | bp _ _ q1 q2 => exact ⟨rfl, q2, q1⟩
  obtain ⟨cs, e, k1, k2, k3, k4, k5⟩ := hI.boxC hid hm
  obtain ⟨u, rfl⟩ := List.length_eq_one_iff.1 (k2.symm.trans rfl)
  have ht : w.cell? ⟨G.box id, 0, none⟩ = some u := by simp [World.cell?, k1]
  have hg := (hI.lay _ (by simp only [laidC]; exact List.mem_singleton.2 rfl)).1
  refine (as_miss k ⟨G.box id, 0, none⟩ u w hg ht).mono ?_
  rintro ev w' ⟨rfl, rfl⟩
  obtain ⟨G1, i1, e1, a1, b1, c1⟩ := hI.pushed (.cells #[.pointer (some ⟨G.box id, 0, none⟩)] 54)
  obtain ⟨G2, i2, e2, a2, b2, c2⟩ := i1.pushed (.cells #[.pointer (some ⟨4, 54, none⟩), .pointer (some ⟨w.heap.size, 0, none⟩), .int .u64 150] 66)
  obtain ⟨G3, i3, e3, a3, b3, c3⟩ := i2.pushed (.cells #[.pointer (some ⟨4, 54, none⟩), .pointer (some ⟨w.heap.size, 0, none⟩), .int .u64 150] 66)
  exact .inl ⟨_, .v (.bool false), m, G3, rfl, ⟨rfl, rfl⟩, .v rfl, i3, (e1.trans e2).trans e3⟩
/-- errors.As of a kind, for the run. -/
def asHookK (next : CallR) : CallR := fun g args m => if g = 22 then (match args with
  | [PV.ifc t (PV.v (Value.int IntKind.i64 k)), PV.ifc t' (PV.bp id 0)] => if t = 26 ∧ t' = 54 then (match m.get id with
    | some [_] => some (.val (.v (.bool false)) m)
    | _ => none) else none
  | _ => next g args m) else next g args m
theorem asHookK_ok {next : CallR} (hn : CallOk Tryd.prog next) : CallOk Tryd.prog (asHookK next) := by
  intro g args m r h
  unfold asHookK at h
  split at h
  · rename_i hg
    subst hg
    split at h
    · split at h
      · rename_i hq
        obtain ⟨rfl, rfl⟩ := hq
        split at h
        · rename_i x hx
          cases h
          exact asK_any _ m _ _ hx
        · cases h
      · cases h
    · exact hn _ _ _ _ h
  · exact hn _ _ _ _ h
end Go.Proofs.YtofnlkogpljmmaaDoor
