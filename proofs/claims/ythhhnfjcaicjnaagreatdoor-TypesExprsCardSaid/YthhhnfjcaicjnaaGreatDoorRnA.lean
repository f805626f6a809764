/-
 Texts that belong together: AbDef, AbRec, AbRun6.
-/
-- halved
import Derived.Test.YthhhnfjcaicjnaaGreatDoorWpA
import Derived.Defers
import Derived.Recover
import Derived.Test.YthhhnfjcaicjnaaGreatDoorLwA
set_option linter.unusedVariables false
set_option linter.unusedSimpArgs false
namespace Go.Proofs.YthhhnfjcaicjnaaGreatDoor
open Go Go.RowKit

theorem enter_fr {G : Ghost} {w : World} {args : List PV} {vs : List Value} {k : Nat} (hl : args.length = vs.length) (hr : ∀ j (h1 : j < args.length) (h2 : j < vs.length), Rep G w args[j] vs[j]) : FR G w (F.args args) (vs.toArray ++ Array.replicate (k - vs.toArray.size) undef) := by
 intro t
 have e : ((vs.toArray ++ Array.replicate (k - vs.toArray.size) undef).getD t undef) = vs.getD t undef := by
  by_cases ht : t < vs.length
  ·simp [List.getD, Array.getElem?_append, ht]
  ·simp only [List.getD, Array.getD_eq_getD_getElem?, Array.getElem?_append, List.size_toArray, ht, if_false, List.getElem?_eq_none (Nat.le_of_not_lt ht)]
   simp only [Array.getElem?_replicate]
   split <;> rfl
 simp only [e, F.args]
 by_cases ht : t < args.length
 ·have := hr t ht (hl ▸ ht)
  simpa [List.getD, ht, hl ▸ ht] using this
 ·simp only [List.getD, List.getElem?_eq_none (Nat.le_of_not_lt ht), List.getElem?_eq_none (Nat.le_of_not_lt (hl ▸ ht)), Option.getD_none]
  exact .tp [] [] rfl (fun j h => by simp at h)
def DRet (P : Program) (h : FuncId) (args : List PV) (m : M) (Q : M → Prop) : Prop := ∀ (G : Ghost) (w : World) (vs : List Value), Inv G m w → args.length = vs.length → (∀ j (h1 : j < args.length) (h2 : j < vs.length), Rep G w args[j] vs[j]) →
 CallsD P h vs.toArray .returning w fun e u' w' => e = .returned (.tuple #[]) ∧ u' = .returning ∧ ∃ m' G', Q m' ∧ Inv G' m' w' ∧ Ext G w G' w'
def DPan (P : Program) (h : FuncId) (args : List PV) (v : PV) (m : M) (Q : M → Prop) : Prop := ∀ (G : Ghost) (w : World) (vs : List Value) (y : Value), Inv G m w → args.length = vs.length → (∀ j (h1 : j < args.length) (h2 : j < vs.length), Rep G w args[j] vs[j]) → Rep G w v y →
 CallsD P h vs.toArray (.panicking [{ v := y, recovered := false }]) w fun e u' w' => e = .returned (.tuple #[]) ∧ u' = .panicking [{ v := y, recovered := true }] ∧ ∃ m' G', Q m' ∧ Inv G' m' w' ∧ Ext G w G' w'

def F.only (ks : List Nat) (g : F) : F := fun t => if t ∈ ks then g t else .junk

theorem rec_run {P : Program} {mu : List Nat} {h : FuncId} {fn : Func} {C : Code} {id t : Nat} {rc : Oper} {args : List PV} {m : M} {Q : M → Prop} {v : PV} {y : Value} {u u' : FrameMode} {G : Ghost} {w : World} {vs : List Value}
    (hmix : P.follows .mixedOrders = true) (hf : P.funcs[h]? = some fn) (hb : fn.body = some (.seq (.region id #[rc] false) C)) (hres : fn.results = #[])
    (hrc : rc.op = .call { callee := .builtin .recover, args := #[], argTypes := #[] } ∧ rc.dst = some t ∧ rc.guard = none) (hbd : Go.Code.bd (.of fn.ntmps) C = true) (ht : t < fn.ntmps) (hn : args.length ≤ fn.ntmps)
    (hm : ∀ (c₀ : Frame) (cs : List Frame), c₀.mode = u → (match recoverD (c₀ :: cs) with | some (z, cs') => z = y ∧ cs' = { c₀ with mode := u' } :: cs | none => y = .nilIface ∧ u' = u))
    (hI : Inv G m w) (hl : args.length = vs.length) (hr : ∀ j (h1 : j < args.length) (h2 : j < vs.length), Rep G w args[j] vs[j]) (hv : Rep G w v y)
    (hC : aCode P mu noZ C (fun e f m' => (e = .normal ∨ e = .ret) ∧ Q m') (F.put (F.args args) (some t) v) m) :
    CallsD P h vs.toArray u w fun e u2 w' => e = .returned (.tuple #[]) ∧ u2 = u' ∧ ∃ m' G', Q m' ∧ Inv G' m' w' ∧ Ext G w G' w' := by
 obtain ⟨r1, r2, r3⟩ := hrc
 refine callsD_of_wpS hf hb fun c₀ cs hu => ?_
 apply wpS_seq
 apply wpS_region
 have hsz : (vs.toArray ++ Array.replicate (fn.ntmps - vs.toArray.size) undef).size = fn.ntmps := by
  simp only [Array.size_append, Array.size_replicate, List.size_toArray]
  omega
 have hS : St (.of fn.ntmps) [] G (F.put (F.args args) (some t) v) m (Act.put { tmps := vs.toArray ++ Array.replicate (fn.ntmps - vs.toArray.size) undef, defers := [] } (some t) y) w := by
  refine ⟨(enter_fr hl hr).put hv (fun t' ht' => by cases ht'; rw [hsz]; exact ht), hI, rfl, by simp only [Act.put, Fi.of, Array.size_setIfInBounds]; exact hsz, fun k hk => by simp [Fi.of] at hk⟩
 have go : ∀ cs', cs' = { c₀ with mode := u' } :: cs → (C.wpS P (bodyPostS P fn c₀ cs fun e u2 w' => e = .returned (.tuple #[]) ∧ u2 = u' ∧ ∃ m' G', Q m' ∧ Inv G' m' w' ∧ Ext G w G' w') (Act.put { tmps := vs.toArray ++ Array.replicate (fn.ntmps - vs.toArray.size) undef, defers := [] } (some t) y) cs' w) := by
  rintro cs' rfl
  refine wpS_of_wp (wp_mono (aCode_sound hmix C hC hbd hS) fun e a w' hl => ?_)
  rcases hl with ⟨G', f, m', ⟨he, hq⟩, hS', hE⟩ | ⟨_, _, _, _, _, hz, _⟩
  ·have fin : a.defers = [] ∧ ∃ u2, ({ c₀ with mode := u' } :: cs) = { c₀ with mode := u2 } :: cs ∧ ∃ v, (results fn a.tmps).run P w' = .ok v w' ∧ (Ending.returned v = .returned (.tuple #[]) ∧ u2 = u' ∧ ∃ m' G', Q m' ∧ Inv G' m' w' ∧ Ext G w G' w') :=
     ⟨hS'.defers, u', rfl, .tuple #[], by rw [results_run, hres]; simp, rfl, rfl, m', G', hq, hS'.inv, hE⟩
   rcases he with rfl | rfl <;> exact fin
  ·exact hz.elim
 have hop : ∀ ev : Operand → Value, (execOp ev rc).run P w = .ok .recover w := fun ev => by simp [execOp, r1, go_sem]
 have hw : ∀ q, Region.wanted rc q = true := fun q => by simp [Region.wanted, r3]
 show wpOpsS P #[rc] _ [0] _ _ _
 have hm' := hm c₀ cs hu
 simp only [wpOpsS, List.getElem?_toArray, List.getElem?_cons_zero, hw, hop, if_true, r2]
 split
 ·rename_i z cs' hz
  simp only [hz] at hm'
  obtain ⟨rfl, h2⟩ := hm'
  exact go _ h2
 ·rename_i hz
  simp only [hz] at hm'
  obtain ⟨rfl, rfl⟩ := hm'
  exact go _ (by cases c₀; simp_all)
theorem DRet.of {P : Program} {mu : List Nat} {h : FuncId} {fn : Func} {C : Code} {id t : Nat} {rc : Oper} {args : List PV} {m : M} {Q : M → Prop}
    (hmix : P.follows .mixedOrders = true) (hf : P.funcs[h]? = some fn) (hb : fn.body = some (.seq (.region id #[rc] false) C)) (hres : fn.results = #[])
    (hrc : rc.op = .call { callee := .builtin .recover, args := #[], argTypes := #[] } ∧ rc.dst = some t ∧ rc.guard = none) (hbd : Go.Code.bd (.of fn.ntmps) C = true) (ht : t < fn.ntmps) (hn : args.length ≤ fn.ntmps)
    (hC : aCode P mu noZ C (fun e f m' => (e = .normal ∨ e = .ret) ∧ Q m') (F.put (F.args args) (some t) (.v .nilIface)) m) : DRet P h args m Q := fun G w vs hI hl hr =>
 rec_run hmix hf hb hres hrc hbd ht hn (fun c₀ cs hu => by simp [recoverD, hu]) hI hl hr (.v (x := .nilIface) rfl) hC
theorem DPan.of {P : Program} {mu : List Nat} {h : FuncId} {fn : Func} {C : Code} {id t : Nat} {rc : Oper} {args : List PV} {m : M} {Q : M → Prop}
    (hmix : P.follows .mixedOrders = true) (hf : P.funcs[h]? = some fn) (hb : fn.body = some (.seq (.region id #[rc] false) C)) (hres : fn.results = #[])
    (hrc : rc.op = .call { callee := .builtin .recover, args := #[], argTypes := #[] } ∧ rc.dst = some t ∧ rc.guard = none) (hbd : Go.Code.bd (.of fn.ntmps) C = true) (ht : t < fn.ntmps) (hn : args.length ≤ fn.ntmps) {v : PV}
    (hC : aCode P mu noZ C (fun e f m' => (e = .normal ∨ e = .ret) ∧ Q m') (F.put (F.args args) (some t) v) m) : DPan P h args v m Q := fun G w vs y hI hl hr hv =>
 rec_run hmix hf hb hres hrc hbd ht hn (fun c₀ cs hu => by simp [recoverD, hu]) hI hl hr hv hC

theorem res_keep {P : Program} {fn : Func} {tmps : Array Value} {f : F} {m' : M} {G' : Ghost} {w' : World} {R : PV → M → Prop} (hI' : Inv G' m' w') (hF : FR G' w' f tmps)
    (ha : aRes P f m' fn.results.toList (fun vs => R (pack vs) m')) : ∃ y v, (results fn tmps).run P w' = .ok y w' ∧ R v m' ∧ Rep G' w' v y := by
 obtain ⟨us, ys, hR, h2, h3, h4⟩ := aRes_sound hI' hF _ ha
 have e : (fn.results.mapM (resF tmps)).run P w' = .ok ys.toArray w' := by
  rw [Array.mapM_eq_mapM_toList, ← bind_pure_comp, Sem.run_bind, h4]
  rfl
 by_cases h1 : ys.length = 1
 ·obtain ⟨y, rfl⟩ := List.length_eq_one_iff.1 h1
  obtain ⟨u, rfl⟩ := List.length_eq_one_iff.1 (h2.trans h1)
  refine ⟨y, pack [u], ?_, hR, by simpa [pack] using h3 0 (by simp) (by simp)⟩
  rw [results_run, e]
  rfl
 ·refine ⟨.tuple ys.toArray, pack us, ?_, hR, ?_⟩
  ·rw [results_run, e]
   simp only [Result.andThen_ok, List.size_toArray, h1, dite_false]
  ·have : pack us = .tp us := by
     cases us with
     | nil => rfl
     | cons u us =>
      cases us with
      | nil => simp at h2; omega
      | cons u' us => rfl
   rw [this]
   exact .tp us ys h2 h3
def aPre (P : Program) (mu : List Nat) : List Code → (F → M → Prop) → F → M → Prop
 | [], X, f, m => X f m
 | A :: l, X, f, m => aCode P mu noZ A (fun e f1 m1 => e = .normal ∧ aPre P mu l X f1 m1) f m
theorem aPre_sound {P : Program} {mu : List Nat} {n : Fi} {ds : List Deferred} (hmix : P.follows .mixedOrders = true) {tail : Code} {X : F → M → Prop} {Q : Exit → Act → World → Prop} {G0 : Ghost} {w0 : World} : ∀ (l : List Code) {f : F} {m : M} {G : Ghost} {a : Act} {w : World},
    aPre P mu l X f m → (∀ A ∈ l, Go.Code.bd n A = true) → St n ds G f m a w → Ext G0 w0 G w → (∀ G1 f1 m1 a1 w1, X f1 m1 → St n ds G1 f1 m1 a1 w1 → Ext G0 w0 G1 w1 → tail.wp P Q a1 w1) → (l.foldr .seq tail).wp P Q a w
 | [], f, m, G, a, w, h, _, hS, hE, hK => hK G f m a w h hS hE
 | A :: l, f, m, G, a, w, h, hb, hS, hE, hK => by
  simp only [List.foldr_cons]
  refine wp_seq (wp_mono (aCode_sound hmix A h (hb A (by simp)) hS) fun e a1 w1 hl1 => ?_)
  rcases hl1 with ⟨G1, f1, m1, ⟨rfl, hx⟩, hS1, hE1⟩ | ⟨y, v, m', G', rfl, hz, _⟩
  ·exact aPre_sound hmix l hx (fun A' hA' => hb A' (by simp [hA'])) hS1 (hE.trans hE1) hK
  ·exact hz.elim

theorem ACalls.enterDL {P : Program} {mu : List Nat} {g : FuncId} {fn : Func} {l : List Code} {C : Code} {id tm h : Nat} {kps : List Nat} {mk df : Oper} {cs : Array Operand} {dc : Call} {args : List PV} {m : M} {R : PV → M → Prop}
    (hmix : P.follows .mixedOrders = true) (hf : P.funcs[g]? = some fn) (hb : fn.body = some (l.foldr .seq (.seq (.region id #[mk, df] false) C))) (hc : canCall P g = true) (hch : canCall P h = true)
    (hmk : mk.op = .makeFunc (.func h) #[] cs ∧ mk.dst = some tm ∧ mk.guard = none) (hdf : df.op = .defer dc ∧ dc.callee = .value (.tmp tm) ∧ dc.args = #[] ∧ df.dst = none ∧ df.guard = none)
    (hbA : ∀ A ∈ l, Go.Code.bd (.of fn.ntmps) A = true) (hbC : ∀ kv, Go.Code.bd ⟨fn.ntmps, kps, kv⟩ C = true) (htm : tm < fn.ntmps ∧ ∀ k ∈ kps, tm ≠ k) (hn : args.length ≤ fn.ntmps)
    (X : F → M → Prop) (hA : aPre P mu l X (F.args args) m)
    (hX : ∀ f1 m1, X f1 m1 → ∃ (Kc : M → Prop) (Z : PV → M → Prop),
     aCode P mu Z C (fun e f2 m2 => (e = .normal ∨ e = .ret) ∧ Kc m2) (F.put f1 (some tm) (.fn (.func h) [] (cs.toList.map (ev f1)))) m1 ∧
     (∀ m2, Kc m2 → DRet P h (cs.toList.map (ev f1)) m2 (fun m3 => aRes P (F.only kps f1) m3 fn.results.toList (fun vs => R (pack vs) m3))) ∧
     (∀ v m2, Z v m2 → DPan P h (cs.toList.map (ev f1)) v m2 (fun m3 => aRes P (F.only kps f1) m3 fn.results.toList (fun vs => R (pack vs) m3)))) :
    ACalls P g args m R := by
 refine ⟨hc, fun G w vs hI hl hr => calls_of_wp_defers hf hb ?_⟩
 have hS : St (.of fn.ntmps) [] G (F.args args) m { tmps := vs.toArray ++ Array.replicate (fn.ntmps - vs.toArray.size) undef, defers := [] } w :=
  ⟨enter_fr hl hr, hI, rfl, by simp [Fi.of]; omega, fun k hk => by simp [Fi.of] at hk⟩
 refine aPre_sound hmix l hA hbA hS (Ext.refl _ _) fun G1 f1 m1 a1 w1 hx hS1 hE1 => ?_
 obtain ⟨Kc, Z, hC, hK1, hK2⟩ := hX f1 m1 hx
 obtain ⟨hm1, hm2, hm3⟩ := hmk
 obtain ⟨hd1, hd2, hd3, hd4, hd5⟩ := hdf
 have hclo : ∃ cvs : List Value, (cs.toList.map (ev f1)).length = cvs.length ∧ (∀ j (h1 : j < (cs.toList.map (ev f1)).length) (h2 : j < cvs.length), Rep G1 w1 (cs.toList.map (ev f1))[j] cvs[j]) ∧ (cs.map a1.eval) = cvs.toArray := by
  obtain ⟨q1, q2⟩ := reps_of hS1.fr cs.toList
  exact ⟨_, q1, q2, by apply Array.ext'; simp⟩
 obtain ⟨cvs, c1, c2, c3⟩ := hclo
 let clo : Value := .func (.func h) #[] cvs.toArray
 let a2 : Act := a1.put (some tm) clo
 let d : Deferred := { target := .fn (.func h) cvs.toArray, args := #[] }
 have hmkr : (execOp a1.eval mk).run P w1 = .ok (.value clo) w1 := by
  simp [execOp, hm1, Instr.makeFunc, c3, clo]
 have hlt : tm < a1.tmps.size := by rw [hS1.size]; exact htm.1
 have hev : a2.eval (.tmp tm) = clo := by
  show a2.tmps.getD tm undef = _
  simp [a2, Act.put, hlt]
 have hdfr : (execOp a2.eval df).run P w1 = .ok (.defer d) w1 := by
  simp [execOp, hd1, resolve, hd2, hd3, hev, Deferred.ofValue, clo, d]
 have hrepc : Rep G1 w1 (.fn (.func h) [] (cs.toList.map (ev f1))) clo := by
  have := Rep.fn (G := G1) (w := w1) (.func h) [] _ [] _ rfl c1 (fun j h => by simp at h) c2
  exact this
 have hS2 : St ⟨fn.ntmps, kps, fun k => a1.tmps.getD k undef⟩ [d] G1 (F.put f1 (some tm) (.fn (.func h) [] (cs.toList.map (ev f1)))) m1 { a2 with defers := d :: a2.defers } w1 := by
  refine ⟨hS1.fr.put hrepc (fun t ht => by cases ht; exact hlt), hS1.inv, ?_, ?_, ?_⟩
  ·show d :: a1.defers = [d]
   rw [hS1.defers]
  ·show (a1.tmps.setIfInBounds tm clo).size = fn.ntmps
   rw [Array.size_setIfInBounds]; exact hS1.size
  ·intro k hk
   show (a1.put (some tm) clo).tmps.getD k undef = _
   rw [put_kept (htm.2 k hk)]
 refine wp_seq (wp_region_list ?_)
 show wpList P #[mk, df] _ [mk, df] a1 w1
 unfold wpList
 rw [if_pos (by simp [Region.wanted, hm3])]
 refine .inl ?_
 unfold Oper.wp
 rw [hmkr]
 show wpList P #[mk, df] _ [df] (a1.put mk.dst clo) w1
 rw [hm2]
 unfold wpList
 rw [if_pos (by simp [Region.wanted, hd5])]
 refine .inl ?_
 unfold Oper.wp
 rw [hdfr]
 simp only [Oper.upon]
 rw [hd4]
 show C.wp P (bodyPostD P fn _) { a2 with defers := d :: a2.defers } w1
 have hinv : ∀ w2 : World, (invoke (.fn (.func h) cvs.toArray) #[]).run P w2 = .ok (.enter h cvs.toArray) w2 := fun w2 => by
  simp only [invoke]
  rw [run_callFunc hch]
  simp
 have tail : ∀ (a3 : Act) (w3 : World) (G3 : Ghost) (m3 m4 : M) (w4 : World) (G4 : Ghost), (∀ k ∈ kps, a3.tmps.getD k undef = a1.tmps.getD k undef) → Ext G1 w1 G3 w3 → Ext G3 w3 G4 w4 → Inv G4 m4 w4 →
     aRes P (F.only kps f1) m4 fn.results.toList (fun vs => R (pack vs) m4) →
     Leaves P fn a3.tmps (fun e w' => (∃ y v m' G', e = .returned y ∧ R v m' ∧ Rep G' w' v y ∧ Inv G' m' w' ∧ Ext G w G' w') ∨ (∃ y v m' G', e = .panicked [{ v := y, recovered := false }] ∧ noZ v m' ∧ Rep G' w' v y ∧ Inv G' m' w' ∧ Ext G w G' w')) [] .returning w4 := by
  intro a3 w3 G3 m3 m4 w4 G4 hk3 hE3 hE4 hI4 ha
  have hF : FR G4 w4 (F.only kps f1) a3.tmps := fun t => by
   unfold F.only
   split
   ·rename_i ht
    rw [hk3 t ht]
    exact ((hS1.fr t).mono hE3).mono hE4
   ·exact .junk _
  obtain ⟨y, v, hy1, q1, q2⟩ := res_keep hI4 hF ha
  exact ⟨y, hy1, .inl ⟨y, v, m4, G4, rfl, q1, q2, hI4, (hE1.trans hE3).trans hE4⟩⟩
 refine wp_mono (aCode_sound hmix C hC (hbC _) hS2) fun e a3 w3 hl3 => ?_
 rcases hl3 with ⟨G3, f3, m3, ⟨he, hk⟩, hS3, hE3⟩ | ⟨y, v, m3, G3, rfl, hz, hrv, hI3, hE3, hds, hkk⟩
 ·have hgo : Leaves P fn a3.tmps (fun e w' => (∃ y v m' G', e = .returned y ∧ R v m' ∧ Rep G' w' v y ∧ Inv G' m' w' ∧ Ext G w G' w') ∨ (∃ y v m' G', e = .panicked [{ v := y, recovered := false }] ∧ noZ v m' ∧ Rep G' w' v y ∧ Inv G' m' w' ∧ Ext G w G' w')) a3.defers .returning w3 := by
    rw [hS3.defers]
    refine leaves_cons (by simp) (hinv w3) ?_
    refine (hK1 m3 hk G3 w3 cvs hS3.inv c1 (fun j q1 q2 => (c2 j q1 q2).mono hE3)).mono ?_
    rintro e u' w4 ⟨rfl, rfl, m4, G4, ha, hI4, hE4⟩
    exact tail a3 w3 G3 m3 m4 w4 G4 hS3.kept hE3 hE4 hI4 ha
  rcases he with rfl | rfl <;> exact hgo
 ·show Leaves P fn a3.tmps _ a3.defers _ w3
  rw [hds]
  refine leaves_cons (by simp) (hinv w3) ?_
  refine (hK2 v m3 hz G3 w3 cvs y hI3 c1 (fun j q1 q2 => (c2 j q1 q2).mono hE3) hrv).mono ?_
  rintro e u' w4 ⟨rfl, rfl, m4, G4, ha, hI4, hE4⟩
  exact tail a3 w3 G3 m3 m4 w4 G4 hkk hE3 hE4 hI4 ha
theorem ACalls.enterDM {P : Program} {mu : List Nat} {g : FuncId} {fn : Func} {l : List Code} {C : Code} {id h : Nat} {kps : List Nat} {df : Oper} {cs : Array Operand} {dc : Call} {args : List PV} {m : M} {R : PV → M → Prop}
    (hmix : P.follows .mixedOrders = true) (hf : P.funcs[g]? = some fn) (hb : fn.body = some (l.foldr .seq (.seq (.region id #[df] false) C))) (hc : canCall P g = true) (hch : canCall P h = true)
    (hdf : df.op = .defer dc ∧ dc.callee = .value (.func h) ∧ dc.args = cs ∧ df.dst = none ∧ df.guard = none)
    (hbA : ∀ A ∈ l, Go.Code.bd (.of fn.ntmps) A = true) (hbC : ∀ kv, Go.Code.bd ⟨fn.ntmps, kps, kv⟩ C = true) (hn : args.length ≤ fn.ntmps)
    (X : F → M → Prop) (hA : aPre P mu l X (F.args args) m)
    (hX : ∀ f1 m1, X f1 m1 → ∃ (Kc : M → Prop) (Z : PV → M → Prop),
     aCode P mu Z C (fun e f2 m2 => (e = .normal ∨ e = .ret) ∧ Kc m2) f1 m1 ∧
     (∀ m2, Kc m2 → DRet P h (cs.toList.map (ev f1)) m2 (fun m3 => aRes P (F.only kps f1) m3 fn.results.toList (fun vs => R (pack vs) m3))) ∧
     (∀ v m2, Z v m2 → DPan P h (cs.toList.map (ev f1)) v m2 (fun m3 => aRes P (F.only kps f1) m3 fn.results.toList (fun vs => R (pack vs) m3)))) :
    ACalls P g args m R := by
 refine ⟨hc, fun G w vs hI hl hr => calls_of_wp_defers hf hb ?_⟩
 have hS : St (.of fn.ntmps) [] G (F.args args) m { tmps := vs.toArray ++ Array.replicate (fn.ntmps - vs.toArray.size) undef, defers := [] } w :=
  ⟨enter_fr hl hr, hI, rfl, by simp [Fi.of]; omega, fun k hk => by simp [Fi.of] at hk⟩
 refine aPre_sound hmix l hA hbA hS (Ext.refl _ _) fun G1 f1 m1 a1 w1 hx hS1 hE1 => ?_
 obtain ⟨Kc, Z, hC, hK1, hK2⟩ := hX f1 m1 hx
 obtain ⟨hd1, hd2, hd3, hd4, hd5⟩ := hdf
 have hclo : ∃ cvs : List Value, (cs.toList.map (ev f1)).length = cvs.length ∧ (∀ j (h1 : j < (cs.toList.map (ev f1)).length) (h2 : j < cvs.length), Rep G1 w1 (cs.toList.map (ev f1))[j] cvs[j]) ∧ (cs.map a1.eval) = cvs.toArray := by
  obtain ⟨q1, q2⟩ := reps_of hS1.fr cs.toList
  exact ⟨_, q1, q2, by apply Array.ext'; simp⟩
 obtain ⟨cvs, c1, c2, c3⟩ := hclo
 let d : Deferred := { target := .fn (.func h) #[], args := cvs.toArray }
 have hevf : a1.eval (.func h) = .func (.func h) #[] #[] := rfl
 have hdfr : (execOp a1.eval df).run P w1 = .ok (.defer d) w1 := by
  simp [execOp, hd1, resolve, hd2, hd3, c3, hevf, Deferred.ofValue, d]
 have hS2 : St ⟨fn.ntmps, kps, fun k => a1.tmps.getD k undef⟩ [d] G1 f1 m1 { a1 with defers := d :: a1.defers } w1 := by
  refine ⟨hS1.fr, hS1.inv, ?_, hS1.size, fun k hk => rfl⟩
  show d :: a1.defers = [d]
  rw [hS1.defers]
 refine wp_seq (wp_region_list ?_)
 show wpList P #[df] _ [df] a1 w1
 unfold wpList
 rw [if_pos (by simp [Region.wanted, hd5])]
 refine .inl ?_
 unfold Oper.wp
 rw [hdfr]
 simp only [Oper.upon]
 rw [hd4]
 show C.wp P (bodyPostD P fn _) { a1 with defers := d :: a1.defers } w1
 have hinv : ∀ w2 : World, (invoke (.fn (.func h) #[]) cvs.toArray).run P w2 = .ok (.enter h cvs.toArray) w2 := fun w2 => by
  simp only [invoke]
  rw [run_callFunc hch]
  simp
 have tail : ∀ (a3 : Act) (w3 : World) (G3 : Ghost) (m3 m4 : M) (w4 : World) (G4 : Ghost), (∀ k ∈ kps, a3.tmps.getD k undef = a1.tmps.getD k undef) → Ext G1 w1 G3 w3 → Ext G3 w3 G4 w4 → Inv G4 m4 w4 →
     aRes P (F.only kps f1) m4 fn.results.toList (fun vs => R (pack vs) m4) →
     Leaves P fn a3.tmps (fun e w' => (∃ y v m' G', e = .returned y ∧ R v m' ∧ Rep G' w' v y ∧ Inv G' m' w' ∧ Ext G w G' w') ∨ (∃ y v m' G', e = .panicked [{ v := y, recovered := false }] ∧ noZ v m' ∧ Rep G' w' v y ∧ Inv G' m' w' ∧ Ext G w G' w')) [] .returning w4 := by
  intro a3 w3 G3 m3 m4 w4 G4 hk3 hE3 hE4 hI4 ha
  have hF : FR G4 w4 (F.only kps f1) a3.tmps := fun t => by
   unfold F.only
   split
   ·rename_i ht
    rw [hk3 t ht]
    exact ((hS1.fr t).mono hE3).mono hE4
   ·exact .junk _
  obtain ⟨y, v, hy1, q1, q2⟩ := res_keep hI4 hF ha
  exact ⟨y, hy1, .inl ⟨y, v, m4, G4, rfl, q1, q2, hI4, (hE1.trans hE3).trans hE4⟩⟩
 refine wp_mono (aCode_sound hmix C hC (hbC _) hS2) fun e a3 w3 hl3 => ?_
 rcases hl3 with ⟨G3, f3, m3, ⟨he, hk⟩, hS3, hE3⟩ | ⟨y, v, m3, G3, rfl, hz, hrv, hI3, hE3, hds, hkk⟩
 ·have hgo : Leaves P fn a3.tmps (fun e w' => (∃ y v m' G', e = .returned y ∧ R v m' ∧ Rep G' w' v y ∧ Inv G' m' w' ∧ Ext G w G' w') ∨ (∃ y v m' G', e = .panicked [{ v := y, recovered := false }] ∧ noZ v m' ∧ Rep G' w' v y ∧ Inv G' m' w' ∧ Ext G w G' w')) a3.defers .returning w3 := by
    rw [hS3.defers]
    refine leaves_cons (by simp) (hinv w3) ?_
    refine (hK1 m3 hk G3 w3 cvs hS3.inv c1 (fun j q1 q2 => (c2 j q1 q2).mono hE3)).mono ?_
    rintro e u' w4 ⟨rfl, rfl, m4, G4, ha, hI4, hE4⟩
    exact tail a3 w3 G3 m3 m4 w4 G4 hS3.kept hE3 hE4 hI4 ha
  rcases he with rfl | rfl <;> exact hgo
 ·show Leaves P fn a3.tmps _ a3.defers _ w3
  rw [hds]
  refine leaves_cons (by simp) (hinv w3) ?_
  refine (hK2 v m3 hz G3 w3 cvs y hI3 c1 (fun j q1 q2 => (c2 j q1 q2).mono hE3) hrv).mono ?_
  rintro e u' w4 ⟨rfl, rfl, m4, G4, ha, hI4, hE4⟩
  exact tail a3 w3 G3 m3 m4 w4 G4 hkk hE3 hE4 hI4 ha
theorem bd_kv (n : Nat) (k : List Nat) (v v' : Nat → Value) : ∀ c, Go.Code.bd ⟨n, k, v⟩ c = Go.Code.bd ⟨n, k, v'⟩ c := by
 intro c
 induction c with
 | region id ops d => rfl
 | seq a b iha ihb => simp only [Go.Code.bd, iha, ihb]
 | cond x a b iha ihb => simp only [Go.Code.bd, iha, ihb]
 | block id c ih => simp only [Go.Code.bd, ih]
 | loop c ih => simp only [Go.Code.bd, ih]
 | _ => rfl
end Go.Proofs.YthhhnfjcaicjnaaGreatDoor
