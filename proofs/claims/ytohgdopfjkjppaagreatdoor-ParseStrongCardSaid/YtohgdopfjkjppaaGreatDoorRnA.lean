/-
 Texts that belong together: AbRec, AbRun6, AbRun7.
-/
-- halved
import Derived.Test.YtohgdopfjkjppaaGreatDoorGC
import Derived.Test.YtohgdopfjkjppaaGreatDoorGD
/-
 A closure that begins with recover, and is run as its frame returns or panics.
-/
set_option linter.unusedVariables false
set_option linter.unusedSimpArgs false
namespace Go.Proofs.YtohgdopfjkjppaaGreatDoor
open Go Go.RowKit

theorem rec_run {P : Program} {mu : List Nat} {h : FuncId} {fn : Func} {C : Code} {id t : Nat} {rc : Oper} {args : List PV} {m : M} {Q : M → Prop} {v : PV} {y : Value} {u u' : FrameMode} {G : Ghost} {w : World} {vs : List Value}
    (hmix : P.follows .mixedOrders = true) (hf : P.funcs[h]? = some fn) (hb : fn.body = some (.seq (.region id #[rc] false) C)) (hres : fn.results = #[])
    (hrc : rc.op = .call { callee := .builtin .recover, args := #[], argTypes := #[] } ∧ rc.dst = some t ∧ rc.guard = none) (hbd : Go.Code.bd (.of fn.ntmps) C = true) (ht : t < fn.ntmps) (hn : args.length ≤ fn.ntmps)
    (hm : ∀ (c₀ : Frame) (cs : List Frame), c₀.mode = u → (match recoverD (c₀ :: cs) with | some (z, cs') => z = y ∧ cs' = { c₀ with mode := u' } :: cs | none => y = .nilIface ∧ u' = u))
    (hI : Inv G m w) (hl : args.length = vs.length) (hr : ∀ j (h1 : j < args.length) (h2 : j < vs.length), Rep G w args[j] vs[j]) (hv : Rep G w v y)
    (hC : aCode P mu noZ C (fun e f m' => (e = .normal ∨ e = .ret) ∧ Q m') (F.put (F.args args) (some t) v) m) :
    CallsD P h vs.toArray u w fun e u2 w' => e = .returned (.tuple #[]) ∧ u2 = u' ∧ ∃ m' G', Q m' ∧ Inv G' m' w' ∧ Ext G w G' w' := by
 obtain ⟨r1, r2, r3⟩ := hrc
 refine callsD_of_wpS hf hb fun c₀ cs hu => ?_
 apply wpS_seq
 apply wpS_region
 have hsz : (vs.toArray ++ Array.replicate (fn.ntmps - vs.toArray.size) undef).size = fn.ntmps := by
  simp only [Array.size_append, Array.size_replicate, List.size_toArray]
  omega
 have hS : St (.of fn.ntmps) [] G (F.put (F.args args) (some t) v) m (Act.put { tmps := vs.toArray ++ Array.replicate (fn.ntmps - vs.toArray.size) undef, defers := [] } (some t) y) w := by
  refine ⟨(enter_fr hl hr).put hv (fun t' ht' => by cases ht'; rw [hsz]; exact ht), hI, rfl, by simp only [Act.put, Fi.of, Array.size_setIfInBounds]; exact hsz, fun k hk => by simp [Fi.of] at hk⟩
 have go : ∀ cs', cs' = { c₀ with mode := u' } :: cs → (C.wpS P (bodyPostS P fn c₀ cs fun e u2 w' => e = .returned (.tuple #[]) ∧ u2 = u' ∧ ∃ m' G', Q m' ∧ Inv G' m' w' ∧ Ext G w G' w') (Act.put { tmps := vs.toArray ++ Array.replicate (fn.ntmps - vs.toArray.size) undef, defers := [] } (some t) y) cs' w) := by
  rintro cs' rfl
  refine wpS_of_wp (wp_mono (aCode_sound hmix C hC hbd hS) fun e a w' hl => ?_)
  rcases hl with ⟨G', f, m', ⟨he, hq⟩, hS', hE⟩ | ⟨_, _, _, _, _, hz, _⟩
  ·have fin : a.defers = [] ∧ ∃ u2, ({ c₀ with mode := u' } :: cs) = { c₀ with mode := u2 } :: cs ∧ ∃ v, (results fn a.tmps).run P w' = .ok v w' ∧ (Ending.returned v = .returned (.tuple #[]) ∧ u2 = u' ∧ ∃ m' G', Q m' ∧ Inv G' m' w' ∧ Ext G w G' w') :=
     ⟨hS'.defers, u', rfl, .tuple #[], by rw [results_run, hres]; simp, rfl, rfl, m', G', hq, hS'.inv, hE⟩
   rcases he with rfl | rfl <;> exact fin
  ·exact hz.elim
 have hop : ∀ ev : Operand → Value, (execOp ev rc).run P w = .ok .recover w := fun ev => by simp [execOp, r1, go_sem]
 have hw : ∀ q, Region.wanted rc q = true := fun q => by simp [Region.wanted, r3]
 show wpOpsS P #[rc] _ [0] _ _ _
 have hm' := hm c₀ cs hu
 simp only [wpOpsS, List.getElem?_toArray, List.getElem?_cons_zero, hw, hop, if_true, r2]
 split
 ·rename_i z cs' hz
  simp only [hz] at hm'
  obtain ⟨rfl, h2⟩ := hm'
  exact go _ h2
 ·rename_i hz
  simp only [hz] at hm'
  obtain ⟨rfl, rfl⟩ := hm'
  exact go _ (by cases c₀; simp_all)
theorem DRet.of {P : Program} {mu : List Nat} {h : FuncId} {fn : Func} {C : Code} {id t : Nat} {rc : Oper} {args : List PV} {m : M} {Q : M → Prop}
    (hmix : P.follows .mixedOrders = true) (hf : P.funcs[h]? = some fn) (hb : fn.body = some (.seq (.region id #[rc] false) C)) (hres : fn.results = #[])
    (hrc : rc.op = .call { callee := .builtin .recover, args := #[], argTypes := #[] } ∧ rc.dst = some t ∧ rc.guard = none) (hbd : Go.Code.bd (.of fn.ntmps) C = true) (ht : t < fn.ntmps) (hn : args.length ≤ fn.ntmps)
    (hC : aCode P mu noZ C (fun e f m' => (e = .normal ∨ e = .ret) ∧ Q m') (F.put (F.args args) (some t) (.v .nilIface)) m) : DRet P h args m Q := fun G w vs hI hl hr =>
 rec_run hmix hf hb hres hrc hbd ht hn (fun c₀ cs hu => by simp [recoverD, hu]) hI hl hr (.v (x := .nilIface) rfl) hC
theorem DPan.of {P : Program} {mu : List Nat} {h : FuncId} {fn : Func} {C : Code} {id t : Nat} {rc : Oper} {args : List PV} {m : M} {Q : M → Prop}
    (hmix : P.follows .mixedOrders = true) (hf : P.funcs[h]? = some fn) (hb : fn.body = some (.seq (.region id #[rc] false) C)) (hres : fn.results = #[])
    (hrc : rc.op = .call { callee := .builtin .recover, args := #[], argTypes := #[] } ∧ rc.dst = some t ∧ rc.guard = none) (hbd : Go.Code.bd (.of fn.ntmps) C = true) (ht : t < fn.ntmps) (hn : args.length ≤ fn.ntmps) {v : PV}
    (hC : aCode P mu noZ C (fun e f m' => (e = .normal ∨ e = .ret) ∧ Q m') (F.put (F.args args) (some t) v) m) : DPan P h args v m Q := fun G w vs y hI hl hr hv =>
 rec_run hmix hf hb hres hrc hbd ht hn (fun c₀ cs hu => by simp [recoverD, hu]) hI hl hr hv hC
end Go.Proofs.YtohgdopfjkjppaaGreatDoor

/-
 A function that defers one closure ahead of its work, its results kept as they stand.
-/
set_option linter.unusedVariables false
set_option linter.unusedSimpArgs false
namespace Go.Proofs.YtohgdopfjkjppaaGreatDoor
open Go Go.RowKit

/-- Pieces of code, one behind the other, each to its end. -/
def aPre (P : Program) (mu : List Nat) : List Code → (F → M → Prop) → F → M → Prop
 | [], X, f, m => X f m
 | A :: l, X, f, m => aCode P mu noZ A (fun e f1 m1 => e = .normal ∧ aPre P mu l X f1 m1) f m
theorem aPre_sound {P : Program} {mu : List Nat} {n : Fi} {ds : List Deferred} (hmix : P.follows .mixedOrders = true) {tail : Code} {X : F → M → Prop} {Q : Exit → Act → World → Prop} {G0 : Ghost} {w0 : World} : ∀ (l : List Code) {f : F} {m : M} {G : Ghost} {a : Act} {w : World},
    aPre P mu l X f m → (∀ A ∈ l, Go.Code.bd n A = true) → St n ds G f m a w → Ext G0 w0 G w → (∀ G1 f1 m1 a1 w1, X f1 m1 → St n ds G1 f1 m1 a1 w1 → Ext G0 w0 G1 w1 → tail.wp P Q a1 w1) → (l.foldr .seq tail).wp P Q a w
 | [], f, m, G, a, w, h, _, hS, hE, hK => hK G f m a w h hS hE
 | A :: l, f, m, G, a, w, h, hb, hS, hE, hK => by
  simp only [List.foldr_cons]
  refine wp_seq (wp_mono (aCode_sound hmix A h (hb A (by simp)) hS) fun e a1 w1 hl1 => ?_)
  rcases hl1 with ⟨G1, f1, m1, ⟨rfl, hx⟩, hS1, hE1⟩ | ⟨y, v, m', G', rfl, hz, _⟩
  ·exact aPre_sound hmix l hx (fun A' hA' => hb A' (by simp [hA'])) hS1 (hE.trans hE1) hK
  ·exact hz.elim

theorem ACalls.enterDL {P : Program} {mu : List Nat} {g : FuncId} {fn : Func} {l : List Code} {C : Code} {id tm h : Nat} {kps : List Nat} {mk df : Oper} {cs : Array Operand} {dc : Call} {args : List PV} {m : M} {R : PV → M → Prop}
    (hmix : P.follows .mixedOrders = true) (hf : P.funcs[g]? = some fn) (hb : fn.body = some (l.foldr .seq (.seq (.region id #[mk, df] false) C))) (hc : canCall P g = true) (hch : canCall P h = true)
    (hmk : mk.op = .makeFunc (.func h) #[] cs ∧ mk.dst = some tm ∧ mk.guard = none) (hdf : df.op = .defer dc ∧ dc.callee = .value (.tmp tm) ∧ dc.args = #[] ∧ df.dst = none ∧ df.guard = none)
    (hbA : ∀ A ∈ l, Go.Code.bd (.of fn.ntmps) A = true) (hbC : ∀ kv, Go.Code.bd ⟨fn.ntmps, kps, kv⟩ C = true) (htm : tm < fn.ntmps ∧ ∀ k ∈ kps, tm ≠ k) (hn : args.length ≤ fn.ntmps)
    (X : F → M → Prop) (hA : aPre P mu l X (F.args args) m)
    (hX : ∀ f1 m1, X f1 m1 → ∃ (Kc : M → Prop) (Z : PV → M → Prop),
     aCode P mu Z C (fun e f2 m2 => (e = .normal ∨ e = .ret) ∧ Kc m2) (F.put f1 (some tm) (.fn (.func h) [] (cs.toList.map (ev f1)))) m1 ∧
     (∀ m2, Kc m2 → DRet P h (cs.toList.map (ev f1)) m2 (fun m3 => aRes P (F.only kps f1) m3 fn.results.toList (fun vs => R (pack vs) m3))) ∧
     (∀ v m2, Z v m2 → DPan P h (cs.toList.map (ev f1)) v m2 (fun m3 => aRes P (F.only kps f1) m3 fn.results.toList (fun vs => R (pack vs) m3)))) :
    ACalls P g args m R := by
 refine ⟨hc, fun G w vs hI hl hr => calls_of_wp_defers hf hb ?_⟩
 have hS : St (.of fn.ntmps) [] G (F.args args) m { tmps := vs.toArray ++ Array.replicate (fn.ntmps - vs.toArray.size) undef, defers := [] } w :=
  ⟨enter_fr hl hr, hI, rfl, by simp [Fi.of]; omega, fun k hk => by simp [Fi.of] at hk⟩
 refine aPre_sound hmix l hA hbA hS (Ext.refl _ _) fun G1 f1 m1 a1 w1 hx hS1 hE1 => ?_
 obtain ⟨Kc, Z, hC, hK1, hK2⟩ := hX f1 m1 hx
 obtain ⟨hm1, hm2, hm3⟩ := hmk
 obtain ⟨hd1, hd2, hd3, hd4, hd5⟩ := hdf
 -- the closure is made, and put by
 have hclo : ∃ cvs : List Value, (cs.toList.map (ev f1)).length = cvs.length ∧ (∀ j (h1 : j < (cs.toList.map (ev f1)).length) (h2 : j < cvs.length), Rep G1 w1 (cs.toList.map (ev f1))[j] cvs[j]) ∧ (cs.map a1.eval) = cvs.toArray := by
  obtain ⟨q1, q2⟩ := reps_of hS1.fr cs.toList
  exact ⟨_, q1, q2, by apply Array.ext'; simp⟩
 obtain ⟨cvs, c1, c2, c3⟩ := hclo
 let clo : Value := .func (.func h) #[] cvs.toArray
 let a2 : Act := a1.put (some tm) clo
 let d : Deferred := { target := .fn (.func h) cvs.toArray, args := #[] }
 have hmkr : (execOp a1.eval mk).run P w1 = .ok (.value clo) w1 := by
  simp [execOp, hm1, Instr.makeFunc, c3, clo]
 have hlt : tm < a1.tmps.size := by rw [hS1.size]; exact htm.1
 have hev : a2.eval (.tmp tm) = clo := by
  show a2.tmps.getD tm undef = _
  simp [a2, Act.put, hlt]
 have hdfr : (execOp a2.eval df).run P w1 = .ok (.defer d) w1 := by
  simp [execOp, hd1, resolve, hd2, hd3, hev, Deferred.ofValue, clo, d]
 have hrepc : Rep G1 w1 (.fn (.func h) [] (cs.toList.map (ev f1))) clo := by
  have := Rep.fn (G := G1) (w := w1) (.func h) [] _ [] _ rfl c1 (fun j h => by simp at h) c2
  exact this
 have hS2 : St ⟨fn.ntmps, kps, fun k => a1.tmps.getD k undef⟩ [d] G1 (F.put f1 (some tm) (.fn (.func h) [] (cs.toList.map (ev f1)))) m1 { a2 with defers := d :: a2.defers } w1 := by
  refine ⟨hS1.fr.put hrepc (fun t ht => by cases ht; exact hlt), hS1.inv, ?_, ?_, ?_⟩
  ·show d :: a1.defers = [d]
   rw [hS1.defers]
  ·show (a1.tmps.setIfInBounds tm clo).size = fn.ntmps
   rw [Array.size_setIfInBounds]; exact hS1.size
  ·intro k hk
   show (a1.put (some tm) clo).tmps.getD k undef = _
   rw [put_kept (htm.2 k hk)]
 refine wp_seq (wp_region_list ?_)
 show wpList P #[mk, df] _ [mk, df] a1 w1
 unfold wpList
 rw [if_pos (by simp [Region.wanted, hm3])]
 refine .inl ?_
 unfold Oper.wp
 rw [hmkr]
 show wpList P #[mk, df] _ [df] (a1.put mk.dst clo) w1
 rw [hm2]
 unfold wpList
 rw [if_pos (by simp [Region.wanted, hd5])]
 refine .inl ?_
 unfold Oper.wp
 rw [hdfr]
 simp only [Oper.upon]
 rw [hd4]
 show C.wp P (bodyPostD P fn _) { a2 with defers := d :: a2.defers } w1
 have hinv : ∀ w2 : World, (invoke (.fn (.func h) cvs.toArray) #[]).run P w2 = .ok (.enter h cvs.toArray) w2 := fun w2 => by
  simp only [invoke]
  rw [run_callFunc hch]
  simp
 -- behind the closure
 have tail : ∀ (a3 : Act) (w3 : World) (G3 : Ghost) (m3 m4 : M) (w4 : World) (G4 : Ghost), (∀ k ∈ kps, a3.tmps.getD k undef = a1.tmps.getD k undef) → Ext G1 w1 G3 w3 → Ext G3 w3 G4 w4 → Inv G4 m4 w4 →
     aRes P (F.only kps f1) m4 fn.results.toList (fun vs => R (pack vs) m4) →
     Leaves P fn a3.tmps (fun e w' => (∃ y v m' G', e = .returned y ∧ R v m' ∧ Rep G' w' v y ∧ Inv G' m' w' ∧ Ext G w G' w') ∨ (∃ y v m' G', e = .panicked [{ v := y, recovered := false }] ∧ noZ v m' ∧ Rep G' w' v y ∧ Inv G' m' w' ∧ Ext G w G' w')) [] .returning w4 := by
  intro a3 w3 G3 m3 m4 w4 G4 hk3 hE3 hE4 hI4 ha
  have hF : FR G4 w4 (F.only kps f1) a3.tmps := fun t => by
   unfold F.only
   split
   ·rename_i ht
    rw [hk3 t ht]
    exact ((hS1.fr t).mono hE3).mono hE4
   ·exact .junk _
  obtain ⟨y, v, hy1, q1, q2⟩ := res_keep hI4 hF ha
  exact ⟨y, hy1, .inl ⟨y, v, m4, G4, rfl, q1, q2, hI4, (hE1.trans hE3).trans hE4⟩⟩
 refine wp_mono (aCode_sound hmix C hC (hbC _) hS2) fun e a3 w3 hl3 => ?_
 rcases hl3 with ⟨G3, f3, m3, ⟨he, hk⟩, hS3, hE3⟩ | ⟨y, v, m3, G3, rfl, hz, hrv, hI3, hE3, hds, hkk⟩
 ·have hgo : Leaves P fn a3.tmps (fun e w' => (∃ y v m' G', e = .returned y ∧ R v m' ∧ Rep G' w' v y ∧ Inv G' m' w' ∧ Ext G w G' w') ∨ (∃ y v m' G', e = .panicked [{ v := y, recovered := false }] ∧ noZ v m' ∧ Rep G' w' v y ∧ Inv G' m' w' ∧ Ext G w G' w')) a3.defers .returning w3 := by
    rw [hS3.defers]
    refine leaves_cons (by simp) (hinv w3) ?_
    refine (hK1 m3 hk G3 w3 cvs hS3.inv c1 (fun j q1 q2 => (c2 j q1 q2).mono hE3)).mono ?_
    rintro e u' w4 ⟨rfl, rfl, m4, G4, ha, hI4, hE4⟩
    exact tail a3 w3 G3 m3 m4 w4 G4 hS3.kept hE3 hE4 hI4 ha
  rcases he with rfl | rfl <;> exact hgo
 ·show Leaves P fn a3.tmps _ a3.defers _ w3
  rw [hds]
  refine leaves_cons (by simp) (hinv w3) ?_
  refine (hK2 v m3 hz G3 w3 cvs y hI3 c1 (fun j q1 q2 => (c2 j q1 q2).mono hE3) hrv).mono ?_
  rintro e u' w4 ⟨rfl, rfl, m4, G4, ha, hI4, hE4⟩
  exact tail a3 w3 G3 m3 m4 w4 G4 hkk hE3 hE4 hI4 ha
theorem ACalls.enterDM {P : Program} {mu : List Nat} {g : FuncId} {fn : Func} {l : List Code} {C : Code} {id h : Nat} {kps : List Nat} {df : Oper} {cs : Array Operand} {dc : Call} {args : List PV} {m : M} {R : PV → M → Prop}
    (hmix : P.follows .mixedOrders = true) (hf : P.funcs[g]? = some fn) (hb : fn.body = some (l.foldr .seq (.seq (.region id #[df] false) C))) (hc : canCall P g = true) (hch : canCall P h = true)
    (hdf : df.op = .defer dc ∧ dc.callee = .value (.func h) ∧ dc.args = cs ∧ df.dst = none ∧ df.guard = none)
    (hbA : ∀ A ∈ l, Go.Code.bd (.of fn.ntmps) A = true) (hbC : ∀ kv, Go.Code.bd ⟨fn.ntmps, kps, kv⟩ C = true) (hn : args.length ≤ fn.ntmps)
    (X : F → M → Prop) (hA : aPre P mu l X (F.args args) m)
    (hX : ∀ f1 m1, X f1 m1 → ∃ (Kc : M → Prop) (Z : PV → M → Prop),
     aCode P mu Z C (fun e f2 m2 => (e = .normal ∨ e = .ret) ∧ Kc m2) f1 m1 ∧
     (∀ m2, Kc m2 → DRet P h (cs.toList.map (ev f1)) m2 (fun m3 => aRes P (F.only kps f1) m3 fn.results.toList (fun vs => R (pack vs) m3))) ∧
     (∀ v m2, Z v m2 → DPan P h (cs.toList.map (ev f1)) v m2 (fun m3 => aRes P (F.only kps f1) m3 fn.results.toList (fun vs => R (pack vs) m3)))) :
    ACalls P g args m R := by
 refine ⟨hc, fun G w vs hI hl hr => calls_of_wp_defers hf hb ?_⟩
 have hS : St (.of fn.ntmps) [] G (F.args args) m { tmps := vs.toArray ++ Array.replicate (fn.ntmps - vs.toArray.size) undef, defers := [] } w :=
  ⟨enter_fr hl hr, hI, rfl, by simp [Fi.of]; omega, fun k hk => by simp [Fi.of] at hk⟩
 refine aPre_sound hmix l hA hbA hS (Ext.refl _ _) fun G1 f1 m1 a1 w1 hx hS1 hE1 => ?_
 obtain ⟨Kc, Z, hC, hK1, hK2⟩ := hX f1 m1 hx
 obtain ⟨hd1, hd2, hd3, hd4, hd5⟩ := hdf
 -- the closure is made, and put by
 have hclo : ∃ cvs : List Value, (cs.toList.map (ev f1)).length = cvs.length ∧ (∀ j (h1 : j < (cs.toList.map (ev f1)).length) (h2 : j < cvs.length), Rep G1 w1 (cs.toList.map (ev f1))[j] cvs[j]) ∧ (cs.map a1.eval) = cvs.toArray := by
  obtain ⟨q1, q2⟩ := reps_of hS1.fr cs.toList
  exact ⟨_, q1, q2, by apply Array.ext'; simp⟩
 obtain ⟨cvs, c1, c2, c3⟩ := hclo
 let d : Deferred := { target := .fn (.func h) #[], args := cvs.toArray }
 have hevf : a1.eval (.func h) = .func (.func h) #[] #[] := rfl
 have hdfr : (execOp a1.eval df).run P w1 = .ok (.defer d) w1 := by
  simp [execOp, hd1, resolve, hd2, hd3, c3, hevf, Deferred.ofValue, d]
 have hS2 : St ⟨fn.ntmps, kps, fun k => a1.tmps.getD k undef⟩ [d] G1 f1 m1 { a1 with defers := d :: a1.defers } w1 := by
  refine ⟨hS1.fr, hS1.inv, ?_, hS1.size, fun k hk => rfl⟩
  show d :: a1.defers = [d]
  rw [hS1.defers]
 refine wp_seq (wp_region_list ?_)
 show wpList P #[df] _ [df] a1 w1
 unfold wpList
 rw [if_pos (by simp [Region.wanted, hd5])]
 refine .inl ?_
 unfold Oper.wp
 rw [hdfr]
 simp only [Oper.upon]
 rw [hd4]
 show C.wp P (bodyPostD P fn _) { a1 with defers := d :: a1.defers } w1
 have hinv : ∀ w2 : World, (invoke (.fn (.func h) #[]) cvs.toArray).run P w2 = .ok (.enter h cvs.toArray) w2 := fun w2 => by
  simp only [invoke]
  rw [run_callFunc hch]
  simp
 -- behind the closure
 have tail : ∀ (a3 : Act) (w3 : World) (G3 : Ghost) (m3 m4 : M) (w4 : World) (G4 : Ghost), (∀ k ∈ kps, a3.tmps.getD k undef = a1.tmps.getD k undef) → Ext G1 w1 G3 w3 → Ext G3 w3 G4 w4 → Inv G4 m4 w4 →
     aRes P (F.only kps f1) m4 fn.results.toList (fun vs => R (pack vs) m4) →
     Leaves P fn a3.tmps (fun e w' => (∃ y v m' G', e = .returned y ∧ R v m' ∧ Rep G' w' v y ∧ Inv G' m' w' ∧ Ext G w G' w') ∨ (∃ y v m' G', e = .panicked [{ v := y, recovered := false }] ∧ noZ v m' ∧ Rep G' w' v y ∧ Inv G' m' w' ∧ Ext G w G' w')) [] .returning w4 := by
  intro a3 w3 G3 m3 m4 w4 G4 hk3 hE3 hE4 hI4 ha
  have hF : FR G4 w4 (F.only kps f1) a3.tmps := fun t => by
   unfold F.only
   split
   ·rename_i ht
    rw [hk3 t ht]
    exact ((hS1.fr t).mono hE3).mono hE4
   ·exact .junk _
  obtain ⟨y, v, hy1, q1, q2⟩ := res_keep hI4 hF ha
  exact ⟨y, hy1, .inl ⟨y, v, m4, G4, rfl, q1, q2, hI4, (hE1.trans hE3).trans hE4⟩⟩
 refine wp_mono (aCode_sound hmix C hC (hbC _) hS2) fun e a3 w3 hl3 => ?_
 rcases hl3 with ⟨G3, f3, m3, ⟨he, hk⟩, hS3, hE3⟩ | ⟨y, v, m3, G3, rfl, hz, hrv, hI3, hE3, hds, hkk⟩
 ·have hgo : Leaves P fn a3.tmps (fun e w' => (∃ y v m' G', e = .returned y ∧ R v m' ∧ Rep G' w' v y ∧ Inv G' m' w' ∧ Ext G w G' w') ∨ (∃ y v m' G', e = .panicked [{ v := y, recovered := false }] ∧ noZ v m' ∧ Rep G' w' v y ∧ Inv G' m' w' ∧ Ext G w G' w')) a3.defers .returning w3 := by
    rw [hS3.defers]
    refine leaves_cons (by simp) (hinv w3) ?_
    refine (hK1 m3 hk G3 w3 cvs hS3.inv c1 (fun j q1 q2 => (c2 j q1 q2).mono hE3)).mono ?_
    rintro e u' w4 ⟨rfl, rfl, m4, G4, ha, hI4, hE4⟩
    exact tail a3 w3 G3 m3 m4 w4 G4 hS3.kept hE3 hE4 hI4 ha
  rcases he with rfl | rfl <;> exact hgo
 ·show Leaves P fn a3.tmps _ a3.defers _ w3
  rw [hds]
  refine leaves_cons (by simp) (hinv w3) ?_
  refine (hK2 v m3 hz G3 w3 cvs y hI3 c1 (fun j q1 q2 => (c2 j q1 q2).mono hE3) hrv).mono ?_
  rintro e u' w4 ⟨rfl, rfl, m4, G4, ha, hI4, hE4⟩
  exact tail a3 w3 G3 m3 m4 w4 G4 hkk hE3 hE4 hI4 ha
/-- Which slots are written does not hang on what the kept slot holds. -/
theorem bd_kv (n : Nat) (k : List Nat) (v v' : Nat → Value) : ∀ c, Go.Code.bd ⟨n, k, v⟩ c = Go.Code.bd ⟨n, k, v'⟩ c := by
 intro c
 induction c with
 | region id ops d => rfl
 | seq a b iha ihb => simp only [Go.Code.bd, iha, ihb]
 | cond x a b iha ihb => simp only [Go.Code.bd, iha, ihb]
 | block id c ih => simp only [Go.Code.bd, ih]
 | loop c ih => simp only [Go.Code.bd, ih]
 | _ => rfl
end Go.Proofs.YtohgdopfjkjppaaGreatDoor

/-
 Calls on values that are known, of functions that defer a closure which recovers, too.
-/
set_option linter.unusedVariables false
set_option linter.unusedSimpArgs false
namespace Go.Proofs.YtohgdopfjkjppaaGreatDoor
open Go Go.RowKit

/-- A function's code that defers one closure behind its first pieces. -/
structure DefE where
 l : List Code
 C : Code
 id : Nat
 h : FuncId
 tm : Tmp
 cs : Array Operand
 mko : Oper
 df : Oper
 dc : Call
def eDefAt (l : List Code) (id : Nat) (ops : Array Oper) (C : Code) : Option DefE := match ops.toList with
 | [mk, df] => (match mk.op, mk.dst, mk.guard, df.op, df.dst, df.guard with
  | .makeFunc (.func h) b cs, some tm, none, .defer dc, none, none => (match dc.callee with
   | .value (.tmp t) => if t = tm ∧ b = #[] ∧ dc.args = #[] then some ⟨l, C, id, h, tm, cs, mk, df, dc⟩ else none
   | _ => none)
  | _, _, _, _, _, _ => none)
 | _ => none
def eDefOf (l : List Code) (c : Code) : Option DefE := match c with
 | .seq A B => (match A with
  | .region id ops false => (match eDefAt l id ops B with
   | some d => some d
   | none => eDefOf (l ++ [A]) B)
  | _ => eDefOf (l ++ [A]) B)
 | _ => none
theorem eDefAt_some {l : List Code} {id : Nat} {ops : Array Oper} {C : Code} {d : DefE} (h : eDefAt l id ops C = some d) : (d.l = l ∧ d.C = C ∧ ops = #[d.mko, d.df] ∧ d.id = id) ∧
    (d.mko.op = .makeFunc (.func d.h) #[] d.cs ∧ d.mko.dst = some d.tm ∧ d.mko.guard = none) ∧ (d.df.op = .defer d.dc ∧ d.dc.callee = .value (.tmp d.tm) ∧ d.dc.args = #[] ∧ d.df.dst = none ∧ d.df.guard = none) := by
 unfold eDefAt at h
 split at h
 ·rename_i mk df hops
  split at h
  ·rename_i g b cs tm dc h1 h2 h3 h4 h5 h6
   split at h
   ·rename_i t hc
    split at h
    ·rename_i hq
     obtain ⟨rfl, rfl, h8⟩ := hq
     cases h
     refine ⟨⟨rfl, rfl, ?_, rfl⟩, ⟨h1, h2, h3⟩, h4, hc, h8, h5, h6⟩
     cases ops; simp_all
    ·cases h
   ·cases h
  ·cases h
 ·cases h
theorem eDefOf_some : ∀ (c : Code) {l : List Code} {d : DefE}, eDefOf l c = some d → l.foldr Code.seq c = d.l.foldr Code.seq (Code.seq (.region d.id #[d.mko, d.df] false) d.C) ∧
    (d.mko.op = .makeFunc (.func d.h) #[] d.cs ∧ d.mko.dst = some d.tm ∧ d.mko.guard = none) ∧ (d.df.op = .defer d.dc ∧ d.dc.callee = .value (.tmp d.tm) ∧ d.dc.args = #[] ∧ d.df.dst = none ∧ d.df.guard = none) := by
 intro c
 induction c with
 | seq A B ihA ihB =>
  intro l d h
  have step : ∀ {d}, eDefOf (l ++ [A]) B = some d → l.foldr Code.seq (Code.seq A B) = d.l.foldr Code.seq (Code.seq (.region d.id #[d.mko, d.df] false) d.C) ∧
      (d.mko.op = .makeFunc (.func d.h) #[] d.cs ∧ d.mko.dst = some d.tm ∧ d.mko.guard = none) ∧ (d.df.op = .defer d.dc ∧ d.dc.callee = .value (.tmp d.tm) ∧ d.dc.args = #[] ∧ d.df.dst = none ∧ d.df.guard = none) := fun {d} h => by
   have := ihB h
   simpa [List.foldr_append] using this
  unfold eDefOf at h
  split at h
  ·rename_i id ops
   split at h
   ·rename_i d' hd
    cases h
    obtain ⟨⟨h1, h2, h3, h4⟩, h5⟩ := eDefAt_some hd
    refine ⟨?_, h5⟩
    rw [h1, h2, ← h3, h4]
   ·exact step h
  ·exact step h
 | _ => intro l d h; simp [eDefOf] at h
/-- A closure that begins with recover, and hands nothing back. -/
structure RecE where
 id : Nat
 t : Tmp
 rc : Oper
 C : Code
def eRecOf (fn : Func) : Option RecE := match fn.body with
 | some (.seq (.region id ops false) C) => (match ops.toList with
  | [rc] => (match rc.op, rc.dst, rc.guard with
   | .call ⟨.builtin .recover, a, ts⟩, some t, none => if a = #[] ∧ ts = #[] ∧ fn.results.toList.length = 0 then some ⟨id, t, rc, C⟩ else none
   | _, _, _ => none)
  | _ => none)
 | _ => none
theorem eRecOf_some {fn : Func} {r : RecE} (h : eRecOf fn = some r) : fn.body = some (.seq (.region r.id #[r.rc] false) r.C) ∧ fn.results = #[] ∧
    (r.rc.op = .call { callee := .builtin .recover, args := #[], argTypes := #[] } ∧ r.rc.dst = some r.t ∧ r.rc.guard = none) := by
 unfold eRecOf at h
 split at h
 ·rename_i id ops C hb
  split at h
  ·rename_i rc hops
   split at h
   ·rename_i a ts t h1 h2 h3
    split at h
    ·rename_i hq
     obtain ⟨rfl, rfl, h8⟩ := hq
     cases h
     refine ⟨?_, ?_, h1, h2, h3⟩
     ·have : ops = #[rc] := by cases ops; simp_all
      rw [hb, this]
     ·have : fn.results.size = 0 := by simpa using h8
      exact Array.eq_empty_of_size_eq_zero this
    ·cases h
   ·cases h
  ·cases h
 ·cases h
def eClo (P : Program) (mu : List Nat) (call : CallR) (k : Nat) (hn : Func) (r : RecE) (cargs : List PV) (v : PV) (m : M) (kps : List Nat) (f1 : F) (rs : List ResultVar) : Option ER :=
 match eput (eFrame hn.ntmps cargs) (some r.t) v with
 | some env => (match eCode P call mu k r.C env ⟨m, none⟩ with
  | some (.fin .n _ m3) => (eRes P (F.only kps f1) m3.m rs).map fun vs => .val (pack vs) m3.m
  | some (.fin .r _ m3) => (eRes P (F.only kps f1) m3.m rs).map fun vs => .val (pack vs) m3.m
  | _ => none)
 | none => none
theorem eClo_sound {P : Program} {mu : List Nat} {call : CallR} (hc : CallOk P call) {k : Nat} {hn : Func} {r : RecE} {cargs : List PV} {v : PV} {m : M} {kps : List Nat} {f1 : F} {rs : List ResultVar} {er : ER}
    (h : eClo P mu call k hn r cargs v m kps f1 rs = some er) : ∃ v' m', er = .val v' m' ∧
     aCode P mu noZ r.C (fun e f m3 => (e = .normal ∨ e = .ret) ∧ aRes P (F.only kps f1) m3 rs (fun vs => pack vs = v' ∧ m3 = m')) (F.put (F.args cargs) (some r.t) v) m := by
 unfold eClo at h
 split at h
 ·rename_i env he
  rw [← fl_frame hn.ntmps cargs, eput_fl he]
  split at h
  ·rename_i env3 m3 hcode
   simp only [Option.map_eq_some_iff] at h
   obtain ⟨vs, hv, rfl⟩ := h
   exact ⟨_, _, rfl, eCode_sound hc r.C hcode ⟨.inl rfl, eRes_sound _ hv ⟨rfl, rfl⟩⟩⟩
  ·rename_i env3 m3 hcode
   simp only [Option.map_eq_some_iff] at h
   obtain ⟨vs, hv, rfl⟩ := h
   exact ⟨_, _, rfl, eCode_sound hc r.C hcode ⟨.inr rfl, eRes_sound _ hv ⟨rfl, rfl⟩⟩⟩
  ·cases h
 ·cases h
def kpOf : List ResultVar → List Nat
 | [] => []
 | .cell a _ :: r => a :: kpOf r
 | .tmp a :: r => a :: kpOf r
def ePre' (P : Program) (call : CallR) (mu : List Nat) (k : Nat) : List Code → EN → M → Option (EN × M)
 | [], env, m => some (env, m)
 | A :: l, env, m => (match eCode P call mu k A env ⟨m, none⟩ with
  | some (.fin .n env1 m1) => ePre' P call mu k l env1 m1.m
  | _ => none)
theorem ePre'_sound {P : Program} {call : CallR} {mu : List Nat} {k : Nat} (hc : CallOk P call) : ∀ (l : List Code) {env : EN} {m : M} {env1 : EN} {m1 : M}, ePre' P call mu k l env m = some (env1, m1) → aPre P mu l (fun f1 m1' => f1 = fl env1 ∧ m1' = m1) (fl env) m
 | [], env, m, env1, m1, h => by cases h; exact ⟨rfl, rfl⟩
 | A :: l, env, m, env1, m1, h => by
  simp only [ePre'] at h
  split at h
  ·rename_i env2 m2 hA
   exact eCode_sound (Z := noZ) (K := fun e f1 m1' => e = .normal ∧ aPre P mu l (fun f1 m1' => f1 = fl env1 ∧ m1' = m1) f1 m1') hc A hA ⟨rfl, ePre'_sound hc l h⟩
  ·cases h
def eDef (P : Program) (mus : FuncId → List Nat) (call : CallR) (k : Nat) (g : FuncId) (q : FnE) (args : List PV) (m : M) : Option ER :=
 match eDefOf [] q.c with
 | none => none
 | some d => (match P.funcs[d.h]? with
  | none => none
  | some hn => (match eRecOf hn with
   | some r => if (canCall P d.h && (d.l.all fun A => Go.Code.bd (.of q.fn.ntmps) A) && Go.Code.bd ⟨q.fn.ntmps, kpOf q.fn.results.toList, fun _ => undef⟩ d.C && decide (d.tm < q.fn.ntmps) && !(kpOf q.fn.results.toList).contains d.tm && decide (args.length ≤ q.fn.ntmps) && Go.Code.bd (.of hn.ntmps) r.C && decide (r.t < hn.ntmps) && decide (d.cs.toList.length ≤ hn.ntmps)) = true then
       (match ePre' P call (mus g) k d.l (eFrame q.fn.ntmps args) m with
       | some (env1, m1) => (match eput env1 (some d.tm) (.fn (.func d.h) [] (d.cs.toList.map (ev (fl env1)))) with
        | some env2 => (match eCode P call (mus g) k d.C env2 ⟨m1, none⟩ with
         | some (.fin .n _ m2) => eClo P (mus d.h) call k hn r (d.cs.toList.map (ev (fl env1))) (.v .nilIface) m2.m (kpOf q.fn.results.toList) (fl env1) q.fn.results.toList
         | some (.fin .r _ m2) => eClo P (mus d.h) call k hn r (d.cs.toList.map (ev (fl env1))) (.v .nilIface) m2.m (kpOf q.fn.results.toList) (fl env1) q.fn.results.toList
         | some (.pan v m2) => eClo P (mus d.h) call k hn r (d.cs.toList.map (ev (fl env1))) v m2 (kpOf q.fn.results.toList) (fl env1) q.fn.results.toList
         | _ => none)
        | _ => none)
       | _ => none)
     else none
   | _ => none))
theorem eDef_sound {P : Program} {mus : FuncId → List Nat} {call : CallR} (hmix : P.follows .mixedOrders = true) (hc : CallOk P call) {k : Nat} {g : FuncId} {q : FnE} {args : List PV} {m : M} {er : ER}
    (hq : eEntry P g = some q) (h : eDef P mus call k g q args m = some er) : er.grants P g args m := by
 obtain ⟨e1, e2, e3, e4⟩ := eEntry_some hq
 unfold eDef at h
 split at h
 ·cases h
 ·rename_i d hd
  obtain ⟨d1, d2, d3⟩ := eDefOf_some _ hd
  split at h
  ·cases h
  ·rename_i hn hhn
   split at h
   ·rename_i r hr
    obtain ⟨r1, r2, r3⟩ := eRecOf_some hr
    split at h
    ·rename_i hb
     simp only [Bool.and_eq_true, decide_eq_true_eq] at hb
     obtain ⟨⟨⟨⟨⟨⟨⟨⟨b1, b2⟩, b3⟩, b4⟩, b5⟩, b6⟩, b7⟩, b8⟩, b9⟩ := hb
     split at h
     ·rename_i env1 m1 hA
      split at h
      ·rename_i env2 he
       generalize hkps : kpOf q.fn.results.toList = kps at *
       have htm : ∀ k ∈ kps, d.tm ≠ k := fun k hk he' => by
        simp only [Bool.not_eq_true', List.contains_eq_mem, decide_eq_false_iff_not] at b5
        exact b5 (he' ▸ hk)
       -- how the closure ends, whichever way the work went
       have clo : ∀ v m2, eClo P (mus d.h) call k hn r (d.cs.toList.map (ev (fl env1))) v m2 kps (fl env1) q.fn.results.toList = some er → ∃ v' m', er = .val v' m' ∧
           aCode P (mus d.h) noZ r.C (fun e f m3 => (e = .normal ∨ e = .ret) ∧ aRes P (F.only kps (fl env1)) m3 q.fn.results.toList (fun vs => pack vs = v' ∧ m3 = m')) (F.put (F.args (d.cs.toList.map (ev (fl env1)))) (some r.t) v) m2 := fun v m2 hcl => eClo_sound hc hcl
       have key : ∀ v' m', er = .val v' m' → ∀ (r2' : CR) , eCode P call (mus g) k d.C env2 ⟨m1, none⟩ = some r2' → ∀ (Kc : M → Prop) (Z : PV → M → Prop), r2'.to (fun e _ m2 => (e = .normal ∨ e = .ret) ∧ Kc m2) Z →
           (∀ m2, Kc m2 → DRet P d.h (d.cs.toList.map (ev (fl env1))) m2 (fun m3 => aRes P (F.only kps (fl env1)) m3 q.fn.results.toList (fun vs => pack vs = v' ∧ m3 = m'))) →
           (∀ v m2, Z v m2 → DPan P d.h (d.cs.toList.map (ev (fl env1))) v m2 (fun m3 => aRes P (F.only kps (fl env1)) m3 q.fn.results.toList (fun vs => pack vs = v' ∧ m3 = m'))) → er.grants P g args m := by
        rintro v' m' rfl r2' hC Kc Z hr2 hk1 hk2
        refine ACalls.enterDL (mu := mus g) (kps := kps) (l := d.l) hmix e1 (e2.trans (congrArg some d1)) e3 b1 d2 d3 (fun A hA => List.all_eq_true.1 b2 A hA) (fun kv => by rw [bd_kv _ _ kv (fun _ => undef)]; exact b3) ⟨b4, htm⟩ b6 (fun f1 m1' => f1 = fl env1 ∧ m1' = m1) ?_ ?_
        ·rw [← fl_frame q.fn.ntmps args]
         exact ePre'_sound hc _ hA
        ·rintro f1 m1' ⟨rfl, rfl⟩
         refine ⟨Kc, Z, ?_, hk1, hk2⟩
         rw [eput_fl he]
         exact eCode_sound hc d.C hC hr2
       split at h
       ·rename_i env3 m2 hC
        obtain ⟨v', m', he1, hcl⟩ := clo _ _ h
        refine key v' m' he1 _ hC (fun m => m = m2.m) (fun _ _ => False) ⟨.inl rfl, rfl⟩ (fun m2' hm => ?_) (fun _ _ h => h.elim)
        subst hm
        exact DRet.of hmix hhn r1 r2 r3 b7 b8 (by simpa using b9) hcl
       ·rename_i env3 m2 hC
        obtain ⟨v', m', he1, hcl⟩ := clo _ _ h
        refine key v' m' he1 _ hC (fun m => m = m2.m) (fun _ _ => False) ⟨.inr rfl, rfl⟩ (fun m2' hm => ?_) (fun _ _ h => h.elim)
        subst hm
        exact DRet.of hmix hhn r1 r2 r3 b7 b8 (by simpa using b9) hcl
       ·rename_i v m2 hC
        obtain ⟨v', m', he1, hcl⟩ := clo _ _ h
        refine key v' m' he1 _ hC (fun m => False) (fun v1 m1 => v1 = v ∧ m1 = m2) ⟨rfl, rfl⟩ (fun _ h => h.elim) (fun v1 m1 hv => ?_)
        obtain ⟨rfl, rfl⟩ := hv
        exact DPan.of hmix hhn r1 r2 r3 b7 b8 (by simpa using b9) hcl
       ·cases h
      ·cases h
     ·cases h
    ·cases h
   ·cases h
/-- A function's code that defers one function behind its first pieces. -/
structure DefF where
 l : List Code
 C : Code
 id : Nat
 h : FuncId
 cs : Array Operand
 df : Oper
 dc : Call
def eDefAt1 (l : List Code) (id : Nat) (ops : Array Oper) (C : Code) : Option DefF := match ops.toList with
 | [df] => (match df.op, df.dst, df.guard with
  | .defer dc, none, none => (match dc.callee with
   | .value (.func h) => some ⟨l, C, id, h, dc.args, df, dc⟩
   | _ => none)
  | _, _, _ => none)
 | _ => none
def eDefOf1 (l : List Code) (c : Code) : Option DefF := match c with
 | .seq A B => (match A with
  | .region id ops false => (match eDefAt1 l id ops B with
   | some d => some d
   | none => eDefOf1 (l ++ [A]) B)
  | _ => eDefOf1 (l ++ [A]) B)
 | _ => none
theorem eDefAt1_some {l : List Code} {id : Nat} {ops : Array Oper} {C : Code} {d : DefF} (h : eDefAt1 l id ops C = some d) : (d.l = l ∧ d.C = C ∧ ops = #[d.df] ∧ d.id = id) ∧
    (d.df.op = .defer d.dc ∧ d.dc.callee = .value (.func d.h) ∧ d.dc.args = d.cs ∧ d.df.dst = none ∧ d.df.guard = none) := by
 unfold eDefAt1 at h
 split at h
 ·rename_i df hops
  split at h
  ·rename_i dc h4 h5 h6
   split at h
   ·rename_i g hc
    cases h
    refine ⟨⟨rfl, rfl, ?_, rfl⟩, h4, hc, rfl, h5, h6⟩
    cases ops; simp_all
   ·cases h
  ·cases h
 ·cases h
theorem eDefOf1_some : ∀ (c : Code) {l : List Code} {d : DefF}, eDefOf1 l c = some d → l.foldr Code.seq c = d.l.foldr Code.seq (Code.seq (.region d.id #[d.df] false) d.C) ∧
    (d.df.op = .defer d.dc ∧ d.dc.callee = .value (.func d.h) ∧ d.dc.args = d.cs ∧ d.df.dst = none ∧ d.df.guard = none) := by
 intro c
 induction c with
 | seq A B ihA ihB =>
  intro l d h
  have step : ∀ {d}, eDefOf1 (l ++ [A]) B = some d → l.foldr Code.seq (Code.seq A B) = d.l.foldr Code.seq (Code.seq (.region d.id #[d.df] false) d.C) ∧
      (d.df.op = .defer d.dc ∧ d.dc.callee = .value (.func d.h) ∧ d.dc.args = d.cs ∧ d.df.dst = none ∧ d.df.guard = none) := fun {d} h => by
   have := ihB h
   simpa [List.foldr_append] using this
  unfold eDefOf1 at h
  split at h
  ·rename_i id ops
   split at h
   ·rename_i d' hd
    cases h
    obtain ⟨⟨h1, h2, h3, h4⟩, h5⟩ := eDefAt1_some hd
    refine ⟨?_, h5⟩
    rw [h1, h2, ← h3, h4]
   ·exact step h
  ·exact step h
 | _ => intro l d h; simp [eDefOf1] at h
def eDef1 (P : Program) (mus : FuncId → List Nat) (call : CallR) (k : Nat) (g : FuncId) (q : FnE) (args : List PV) (m : M) : Option ER :=
 match eDefOf1 [] q.c with
 | none => none
 | some d => (match P.funcs[d.h]? with
  | none => none
  | some hn => (match eRecOf hn with
   | some r => if (canCall P d.h && (d.l.all fun A => Go.Code.bd (.of q.fn.ntmps) A) && Go.Code.bd ⟨q.fn.ntmps, kpOf q.fn.results.toList, fun _ => undef⟩ d.C && decide (args.length ≤ q.fn.ntmps) && Go.Code.bd (.of hn.ntmps) r.C && decide (r.t < hn.ntmps) && decide (d.cs.toList.length ≤ hn.ntmps)) = true then
       (match ePre' P call (mus g) k d.l (eFrame q.fn.ntmps args) m with
       | some (env1, m1) => (match eCode P call (mus g) k d.C env1 ⟨m1, none⟩ with
           | some (.fin .n _ m2) => eClo P (mus d.h) call k hn r (d.cs.toList.map (ev (fl env1))) (.v .nilIface) m2.m (kpOf q.fn.results.toList) (fl env1) q.fn.results.toList
           | some (.fin .r _ m2) => eClo P (mus d.h) call k hn r (d.cs.toList.map (ev (fl env1))) (.v .nilIface) m2.m (kpOf q.fn.results.toList) (fl env1) q.fn.results.toList
           | some (.pan v m2) => eClo P (mus d.h) call k hn r (d.cs.toList.map (ev (fl env1))) v m2 (kpOf q.fn.results.toList) (fl env1) q.fn.results.toList
           | _ => none)
       | _ => none)
     else none
   | _ => none))
theorem eDef1_sound {P : Program} {mus : FuncId → List Nat} {call : CallR} (hmix : P.follows .mixedOrders = true) (hc : CallOk P call) {k : Nat} {g : FuncId} {q : FnE} {args : List PV} {m : M} {er : ER}
    (hq : eEntry P g = some q) (h : eDef1 P mus call k g q args m = some er) : er.grants P g args m := by
 obtain ⟨e1, e2, e3, e4⟩ := eEntry_some hq
 unfold eDef1 at h
 split at h
 ·cases h
 ·rename_i d hd
  obtain ⟨d1, d3⟩ := eDefOf1_some _ hd
  split at h
  ·cases h
  ·rename_i hn hhn
   split at h
   ·rename_i r hr
    obtain ⟨r1, r2, r3⟩ := eRecOf_some hr
    split at h
    ·rename_i hb
     simp only [Bool.and_eq_true, decide_eq_true_eq] at hb
     obtain ⟨⟨⟨⟨⟨⟨b1, b2⟩, b3⟩, b6⟩, b7⟩, b8⟩, b9⟩ := hb
     split at h
     ·rename_i env1 m1 hA
      ·generalize hkps : kpOf q.fn.results.toList = kps at *
       -- how the closure ends, whichever way the work went
       have clo : ∀ v m2, eClo P (mus d.h) call k hn r (d.cs.toList.map (ev (fl env1))) v m2 kps (fl env1) q.fn.results.toList = some er → ∃ v' m', er = .val v' m' ∧
           aCode P (mus d.h) noZ r.C (fun e f m3 => (e = .normal ∨ e = .ret) ∧ aRes P (F.only kps (fl env1)) m3 q.fn.results.toList (fun vs => pack vs = v' ∧ m3 = m')) (F.put (F.args (d.cs.toList.map (ev (fl env1)))) (some r.t) v) m2 := fun v m2 hcl => eClo_sound hc hcl
       have key : ∀ v' m', er = .val v' m' → ∀ (r2' : CR) , eCode P call (mus g) k d.C env1 ⟨m1, none⟩ = some r2' → ∀ (Kc : M → Prop) (Z : PV → M → Prop), r2'.to (fun e _ m2 => (e = .normal ∨ e = .ret) ∧ Kc m2) Z →
           (∀ m2, Kc m2 → DRet P d.h (d.cs.toList.map (ev (fl env1))) m2 (fun m3 => aRes P (F.only kps (fl env1)) m3 q.fn.results.toList (fun vs => pack vs = v' ∧ m3 = m'))) →
           (∀ v m2, Z v m2 → DPan P d.h (d.cs.toList.map (ev (fl env1))) v m2 (fun m3 => aRes P (F.only kps (fl env1)) m3 q.fn.results.toList (fun vs => pack vs = v' ∧ m3 = m'))) → er.grants P g args m := by
        rintro v' m' rfl r2' hC Kc Z hr2 hk1 hk2
        refine ACalls.enterDM (mu := mus g) (kps := kps) (l := d.l) hmix e1 (e2.trans (congrArg some d1)) e3 b1 d3 (fun A hA => List.all_eq_true.1 b2 A hA) (fun kv => by rw [bd_kv _ _ kv (fun _ => undef)]; exact b3) b6 (fun f1 m1' => f1 = fl env1 ∧ m1' = m1) ?_ ?_
        ·rw [← fl_frame q.fn.ntmps args]
         exact ePre'_sound hc _ hA
        ·rintro f1 m1' ⟨rfl, rfl⟩
         refine ⟨Kc, Z, ?_, hk1, hk2⟩
         exact eCode_sound hc d.C hC hr2
       split at h
       ·rename_i env3 m2 hC
        obtain ⟨v', m', he1, hcl⟩ := clo _ _ h
        refine key v' m' he1 _ hC (fun m => m = m2.m) (fun _ _ => False) ⟨.inl rfl, rfl⟩ (fun m2' hm => ?_) (fun _ _ h => h.elim)
        subst hm
        exact DRet.of hmix hhn r1 r2 r3 b7 b8 (by simpa using b9) hcl
       ·rename_i env3 m2 hC
        obtain ⟨v', m', he1, hcl⟩ := clo _ _ h
        refine key v' m' he1 _ hC (fun m => m = m2.m) (fun _ _ => False) ⟨.inr rfl, rfl⟩ (fun m2' hm => ?_) (fun _ _ h => h.elim)
        subst hm
        exact DRet.of hmix hhn r1 r2 r3 b7 b8 (by simpa using b9) hcl
       ·rename_i v m2 hC
        obtain ⟨v', m', he1, hcl⟩ := clo _ _ h
        refine key v' m' he1 _ hC (fun m => False) (fun v1 m1 => v1 = v ∧ m1 = m2) ⟨rfl, rfl⟩ (fun _ h => h.elim) (fun v1 m1 hv => ?_)
        obtain ⟨rfl, rfl⟩ := hv
        exact DPan.of hmix hhn r1 r2 r3 b7 b8 (by simpa using b9) hcl
       ·cases h
     ·cases h
    ·cases h
   ·cases h
def eCallD (P : Program) (mus : FuncId → List Nat) (hook : CallR) : Nat → CallR
 | 0 => fun _ _ _ => none
 | k + 1 => fun g args m => match hook g args m with
  | some r => some r
  | none => match eEntry P g with
   | none => none
   | some q => match eDef P mus (eCallD P mus hook k) k g q args m with
    | some r => some r
    | none => match eDef1 P mus (eCallD P mus hook k) k g q args m with
    | some r => some r
    | none => if args.length ≤ q.fn.ntmps then
      match eCode P (eCallD P mus hook k) (mus g) k q.c (eFrame q.fn.ntmps args) ⟨m, some []⟩ with
      | some (.fin .n env s) => (eRes P (fl env) s.m q.fn.results.toList).map fun vs => .val (pack vs) s.m s.w
      | some (.fin .r env s) => (eRes P (fl env) s.m q.fn.results.toList).map fun vs => .val (pack vs) s.m s.w
      | some (.pan v m') => some (.pan v m')
      | _ => none
    else none
theorem eCallD_sound {P : Program} {mus : FuncId → List Nat} {hook : CallR} (hmix : P.follows .mixedOrders = true) (hh : CallOk P hook) : ∀ k, CallOk P (eCallD P mus hook k)
 | 0 => fun _ _ _ _ h => by cases h
 | k + 1 => by
  intro g args m r h
  simp only [eCallD] at h
  split at h
  ·rename_i r' hr'
   cases h
   exact hh _ _ _ _ hr'
  ·split at h
   ·cases h
   ·rename_i q hq
    obtain ⟨h1, h2, h3, h4⟩ := eEntry_some hq
    have hk := eCallD_sound (mus := mus) hmix hh k
    split at h
    ·rename_i r' hr'
     cases h
     exact eDef_sound hmix hk hq hr'
    split at h
    ·rename_i r' hr'
     cases h
     exact eDef1_sound hmix hk hq hr'
    ·split at h
     ·rename_i hn
      have done : ∀ (e : EX) env (m' : MW), (e = .n ∨ e = .r) → eCode P (eCallD P mus hook k) (mus g) k q.c (eFrame q.fn.ntmps args) ⟨m, some []⟩ = some (.fin e env m') → (eRes P (fl env) m'.m q.fn.results.toList).map (fun vs => ER.val (pack vs) m'.m m'.w) = some r → r.grants P g args m := by
       intro e env m' he hc hr
       simp only [Option.map_eq_some_iff] at hr
       obtain ⟨vs, hv, rfl⟩ := hr
       refine ER.grants_mk ?_ (eCode_fr hk (m0 := m) _ _ hc (Fr.refl m))
       refine ACallsZ.enterK (mu := mus g) hmix h1 h2 h3 h4 hn ?_
       rw [← fl_frame q.fn.ntmps args]
       refine eCode_sound hk q.c hc ?_
       rcases he with rfl | rfl <;> exact eRes_sound _ hv ⟨rfl, rfl⟩
      split at h
      ·rename_i env m' hc
       exact done .n env m' (.inl rfl) hc h
      ·rename_i env m' hc
       exact done .r env m' (.inr rfl) hc h
      ·rename_i v m' hc
       cases h
       refine ACallsZ.enterK (mu := mus g) hmix h1 h2 h3 h4 hn ?_
       rw [← fl_frame q.fn.ntmps args]
       exact eCode_sound hk q.c hc ⟨rfl, rfl⟩
      ·cases h
     ·cases h
end Go.Proofs.YtohgdopfjkjppaaGreatDoor
