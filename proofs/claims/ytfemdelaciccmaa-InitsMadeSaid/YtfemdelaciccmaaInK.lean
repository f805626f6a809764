/-
  maps.Clone of a map by strings: a new map of the same content.
-/
import Derived.Test.YtfemdelaciccmaaAbRun7
import Derived.Test.YtfemdelaciccmaaChecked
import Derived.Test.YtfemdelaciccmaaAbT
import Derived.Laws.Externs
import Derived.MapKept
import Derived.WalkKit
set_option linter.unusedVariables false
set_option linter.unusedSimpArgs false
namespace Go.Proofs.Ytfemdelaciccmaa
open Go Go.RowKit

section
variable {P : Program} (w : World)
theorem equalIn_map (d : Nat) (t k e : TypeId) (p : Option Nat) (h : P.underlying t = some (.map k e)) : (Op.equalIn (d + 1) t (.map p) (.map none)).run P w = .ok p.isNone w := by
  cases p <;> simp [Op.equalIn, run_underlying h]
theorem eql_map (t k e : TypeId) (p : Option Nat) (h : P.underlying t = some (.map k e)) : (binOp .eql t (.map p) (.map none)).run P w = .ok (.bool p.isNone) w := by
  simp only [binOp]
  simp [show Op.equal t (.map p) (.map none) = Op.equalIn (9999 + 1) t (.map p) (.map none) from rfl, equalIn_map w 9999 t k e p h]
theorem assert_map (t xT k e : TypeId) (v : Value) (h : P.underlying t = some (.map k e)) : (Instr.typeAssert (.iface t v) xT t false).run P w = .ok v w := by
  simp [Instr.typeAssert, run_underlying h, go_sem, Result.andThen]
theorem ext_clone {r : Nat} {es : Array MapEntry} {clock : Nat} (t : TypeId) (hb : w.heap[r]? = some (.map es clock)) :
    (Extern.MapsClone.clone #[.iface t (.map (some r))]).run P w = .ok (.iface t (.map (some w.heap.size))) (w.alloc (.map es clock)) := by
  have e : Extern.MapsClone.clone #[.iface t (.map (some r))] = (getObj r >>= fun o => match o with
      | .map entries clock => (newObj (.map entries clock) >>= fun n => pure (.iface t (.map (some n))))
      | _ => stuck "maps.clone: a map expected") := rfl
  rw [e]
  simp [MapKept.run_getObj_map hb, Result.andThen, go_sem]
end
theorem copy_map {P : Program} {G : Ghost} {w : World} {m : M} (hI : Inv G m w) {id : Nat} {ks vs : List PV} {y : Value} (hy : Rep G w (.mp id) y) (hc : m.get id = some [.tp ks, .tp vs]) :
    ∃ r es clk G', y = .map (some r) ∧ w.heap[r]? = some (.map es clk) ∧ Rep G' (w.alloc (.map es clk)) (.mp m.nb) (.map (some w.heap.size)) ∧ Inv G' (m.push [.tp ks, .tp vs]) (w.alloc (.map es clk)) ∧ Ext G w G' (w.alloc (.map es clk)) := by
  obtain ⟨ks', vs', es, b0, rfl, hcc, hb, hk, hl, hr, hm, hbo⟩ := map_at hI hy hc
  simp only [List.cons.injEq, PV.tp.injEq, and_true] at hcc
  obtain ⟨rfl, rfl⟩ := hcc
  have hpush : Pushed w (w.alloc (.map es.toArray (b0 + es.length))) (.map es.toArray (b0 + es.length)) := Pushed.alloc w _
  obtain ⟨hE, hI'⟩ := hI.push hpush (fun _ => False)
  have hnb : m.nb = G.nb := hI.nb
  have hI2 := hI'.addBoxG w.heap.size [.tp (ks'.map fun k => .v (.string k)), .tp vs] true _ hpush.new (BoxAt.map (G := _) (w := _) ks' vs es b0 [] (.inl rfl) hbo hk hl (fun j q1 q2 => (hr j q1 q2).mono hE)) hI.base (fun o hs => by
    rcases hs with hs | ⟨_, hs⟩
    · have := hI.set _ _ hs; omega
    · exact hs) (fun id c' hc => Nat.ne_of_lt (hI.blt hc)) (fun t s ht o hb => by
    obtain ⟨_, _, a3, _⟩ := (hI.tok t s ht).2 _ _ hb
    obtain ⟨u, hu⟩ := Option.isSome_iff_exists.1 a3
    have : w.heap.size < w.heap.size := World.block_lt_of_cell? w _ hu
    omega)
  refine ⟨_, _, _, _, rfl, hb, ?_, hI2, hE.trans (Ext.addBox _ _ _ _)⟩
  have := Rep.mp (G := (G.more w.heap.size fun _ => False).addBox w.heap.size true) (w := w.alloc (.map es.toArray (b0 + es.length))) m.nb (by show m.nb < G.nb + 1; omega) (if_pos hnb)
  have hbx : ((G.more w.heap.size fun _ => False).addBox w.heap.size true).box m.nb = w.heap.size := if_pos hnb
  rwa [hbx] at this
set_option maxRecDepth 20000 in
set_option maxHeartbeats 2000000 in
theorem mclone_any (id : Nat) (ks vs : List PV) (m : M) (hc : m.get id = some [.tp ks, .tp vs]) :
    ACalls Try.prog 25 [.mp id] m (fun v m' => v = .mp m.nb ∧ m' = m.push [.tp ks, .tp vs]) := by
  refine ⟨by kernel_rfl, fun G w us hI hl hr => ?_⟩
  obtain ⟨v0, rfl⟩ : ∃ v0, us = [v0] := by
    match us, hl with
    | [v0], _ => exact ⟨v0, rfl⟩
  have h0 := hr 0 (by simp) (by simp)
  simp only [List.getElem_cons_zero] at h0
  obtain ⟨r, es, clk, G', rfl, hb, g1, g2, g3⟩ := copy_map (P := Try.prog) hI h0 hc
  have hu := Try.underlying60
  have hq : ∀ w, (binOp .eql 60 (.map (some r)) (.map none)).run Try.prog w = .ok (.bool false) w := fun w => eql_map w _ _ _ (some r) hu
  have hx : ∀ w : World, w.heap[r]? = some (.map es clk) → (callFunc 41 #[.iface 60 (.map (some r))]).run Try.prog w = .ok (.value (.iface 60 (.map (some w.heap.size)))) (w.alloc (.map es clk)) := fun w hb => by
    rw [@run_callFunc_extern Try.prog 41 _ Extern.MapsClone.clone Try.func41 (by kernel_rfl) (by kernel_rfl) (by kernel_rfl) (by kernel_rfl), ext_clone w 60 hb]
    rfl
  have hx := hx w hb
  have ha : ∀ (v : Value) (xT : TypeId) (w : World), (Instr.typeAssert (.iface 60 v) xT 60 false).run Try.prog w = .ok v w := fun v xT w => assert_map w _ xT _ _ v hu
  go_enter Try.func25, Try.ntmps25
  go_wp2
  go_ret
  exact .inl ⟨_, _, _, G', rfl, ⟨rfl, rfl⟩, g1, g2, g3⟩
/-- maps.Clone, for the run. -/
def mcHook (next : CallR) : CallR := fun g args m => if g = 25 then (match args with
  | [PV.mp id] => (match m.get id with
    | some [PV.tp ks, PV.tp vs] => some (.val (.mp m.nb) (m.push [.tp ks, .tp vs]))
    | _ => none)
  | _ => none) else next g args m
theorem mcHook_ok {next : CallR} (hn : CallOk Try.prog next) : CallOk Try.prog (mcHook next) := by
  intro g args m r h
  unfold mcHook at h
  split at h
  · rename_i hg
    subst hg
    split at h
    · split at h
      · rename_i hq
        cases h
        exact mclone_any _ _ _ m hq
      · cases h
    · cases h
  · exact hn _ _ _ _ h
end Go.Proofs.Ytfemdelaciccmaa
