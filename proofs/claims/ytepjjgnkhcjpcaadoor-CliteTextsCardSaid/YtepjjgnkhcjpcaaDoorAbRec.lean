/-
  A closure that begins with recover, and is run as its frame returns or panics.
-/
import Derived.Test.YtepjjgnkhcjpcaaDoorGC
set_option linter.unusedVariables false
set_option linter.unusedSimpArgs false
namespace Go.Proofs.YtepjjgnkhcjpcaaDoor
open Go Go.RowKit

theorem rec_run {P : Program} {mu : List Nat} {h : FuncId} {fn : Func} {C : Code} {id t : Nat} {rc : Oper} {args : List PV} {m : M} {Q : M → Prop} {v : PV} {y : Value} {u u' : FrameMode} {G : Ghost} {w : World} {vs : List Value}
    (hmix : P.follows .mixedOrders = true) (hf : P.funcs[h]? = some fn) (hb : fn.body = some (.seq (.region id #[rc] false) C)) (hres : fn.results = #[])
    (hrc : rc.op = .call { callee := .builtin .recover, args := #[], argTypes := #[] } ∧ rc.dst = some t ∧ rc.guard = none) (hbd : Go.Code.bd (.of fn.ntmps) C = true) (ht : t < fn.ntmps) (hn : args.length ≤ fn.ntmps)
    (hm : ∀ (c₀ : Frame) (cs : List Frame), c₀.mode = u → (match recoverD (c₀ :: cs) with | some (z, cs') => z = y ∧ cs' = { c₀ with mode := u' } :: cs | none => y = .nilIface ∧ u' = u))
    (hI : Inv G m w) (hl : args.length = vs.length) (hr : ∀ j (h1 : j < args.length) (h2 : j < vs.length), Rep G w args[j] vs[j]) (hv : Rep G w v y)
    (hC : aCode P mu noZ C (fun e f m' => (e = .normal ∨ e = .ret) ∧ Q m') (F.put (F.args args) (some t) v) m) :
    CallsD P h vs.toArray u w fun e u2 w' => e = .returned (.tuple #[]) ∧ u2 = u' ∧ ∃ m' G', Q m' ∧ Inv G' m' w' ∧ Ext G w G' w' := by
  obtain ⟨r1, r2, r3⟩ := hrc
  refine callsD_of_wpS hf hb fun c₀ cs hu => ?_
  apply wpS_seq
  apply wpS_region
  have hsz : (vs.toArray ++ Array.replicate (fn.ntmps - vs.toArray.size) undef).size = fn.ntmps := by
    simp only [Array.size_append, Array.size_replicate, List.size_toArray]
    omega
  have hS : St (.of fn.ntmps) [] G (F.put (F.args args) (some t) v) m (Act.put { tmps := vs.toArray ++ Array.replicate (fn.ntmps - vs.toArray.size) undef, defers := [] } (some t) y) w := by
    refine ⟨(enter_fr hl hr).put hv (fun t' ht' => by cases ht'; rw [hsz]; exact ht), hI, rfl, by simp only [Act.put, Fi.of, Array.size_setIfInBounds]; exact hsz, fun k hk => by simp [Fi.of] at hk⟩
  have go : ∀ cs', cs' = { c₀ with mode := u' } :: cs → (C.wpS P (bodyPostS P fn c₀ cs fun e u2 w' => e = .returned (.tuple #[]) ∧ u2 = u' ∧ ∃ m' G', Q m' ∧ Inv G' m' w' ∧ Ext G w G' w') (Act.put { tmps := vs.toArray ++ Array.replicate (fn.ntmps - vs.toArray.size) undef, defers := [] } (some t) y) cs' w) := by
    rintro cs' rfl
    refine wpS_of_wp (wp_mono (aCode_sound hmix C hC hbd hS) fun e a w' hl => ?_)
    rcases hl with ⟨G', f, m', ⟨he, hq⟩, hS', hE⟩ | ⟨_, _, _, _, _, hz, _⟩
    · have fin : a.defers = [] ∧ ∃ u2, ({ c₀ with mode := u' } :: cs) = { c₀ with mode := u2 } :: cs ∧ ∃ v, (results fn a.tmps).run P w' = .ok v w' ∧ (Ending.returned v = .returned (.tuple #[]) ∧ u2 = u' ∧ ∃ m' G', Q m' ∧ Inv G' m' w' ∧ Ext G w G' w') :=
        ⟨hS'.defers, u', rfl, .tuple #[], by rw [results_run, hres]; simp, rfl, rfl, m', G', hq, hS'.inv, hE⟩
      rcases he with rfl | rfl <;> exact fin
    · exact hz.elim
  have hop : ∀ ev : Operand → Value, (execOp ev rc).run P w = .ok .recover w := fun ev => by simp [execOp, r1, go_sem]
  have hw : ∀ q, Region.wanted rc q = true := fun q => by simp [Region.wanted, r3]
  show wpOpsS P #[rc] _ [0] _ _ _
  have hm' := hm c₀ cs hu
  simp only [wpOpsS, List.getElem?_toArray, List.getElem?_cons_zero, hw, hop, if_true, r2]
  split
  · rename_i z cs' hz
    simp only [hz] at hm'
    obtain ⟨rfl, h2⟩ := hm'
    exact go _ h2
  · rename_i hz
    simp only [hz] at hm'
    obtain ⟨rfl, rfl⟩ := hm'
    exact go _ (by cases c₀; simp_all)
theorem DRet.of {P : Program} {mu : List Nat} {h : FuncId} {fn : Func} {C : Code} {id t : Nat} {rc : Oper} {args : List PV} {m : M} {Q : M → Prop}
    (hmix : P.follows .mixedOrders = true) (hf : P.funcs[h]? = some fn) (hb : fn.body = some (.seq (.region id #[rc] false) C)) (hres : fn.results = #[])
    (hrc : rc.op = .call { callee := .builtin .recover, args := #[], argTypes := #[] } ∧ rc.dst = some t ∧ rc.guard = none) (hbd : Go.Code.bd (.of fn.ntmps) C = true) (ht : t < fn.ntmps) (hn : args.length ≤ fn.ntmps)
    (hC : aCode P mu noZ C (fun e f m' => (e = .normal ∨ e = .ret) ∧ Q m') (F.put (F.args args) (some t) (.v .nilIface)) m) : DRet P h args m Q := fun G w vs hI hl hr =>
  rec_run hmix hf hb hres hrc hbd ht hn (fun c₀ cs hu => by simp [recoverD, hu]) hI hl hr (.v (x := .nilIface) rfl) hC
theorem DPan.of {P : Program} {mu : List Nat} {h : FuncId} {fn : Func} {C : Code} {id t : Nat} {rc : Oper} {args : List PV} {m : M} {Q : M → Prop}
    (hmix : P.follows .mixedOrders = true) (hf : P.funcs[h]? = some fn) (hb : fn.body = some (.seq (.region id #[rc] false) C)) (hres : fn.results = #[])
    (hrc : rc.op = .call { callee := .builtin .recover, args := #[], argTypes := #[] } ∧ rc.dst = some t ∧ rc.guard = none) (hbd : Go.Code.bd (.of fn.ntmps) C = true) (ht : t < fn.ntmps) (hn : args.length ≤ fn.ntmps) {v : PV}
    (hC : aCode P mu noZ C (fun e f m' => (e = .normal ∨ e = .ret) ∧ Q m') (F.put (F.args args) (some t) v) m) : DPan P h args v m Q := fun G w vs y hI hl hr hv =>
  rec_run hmix hf hb hres hrc hbd ht hn (fun c₀ cs hu => by simp [recoverD, hu]) hI hl hr hv hC
end Go.Proofs.YtepjjgnkhcjpcaaDoor
