/-
  A function that defers one closure ahead of its work: what the closure does where the work is done, and where it panics.
-/
import Derived.Test.YtamdnlnoioglnaaAbFn
import Derived.Defers
import Derived.Recover
set_option linter.unusedVariables false
set_option linter.unusedSimpArgs false
namespace Go.Proofs.Ytamdnlnoioglnaa
open Go Go.RowKit

/-- What a frame holds as it is entered. -/
theorem enter_fr {G : Ghost} {w : World} {args : List PV} {vs : List Value} {k : Nat} (hl : args.length = vs.length) (hr : ∀ j (h1 : j < args.length) (h2 : j < vs.length), Rep G w args[j] vs[j]) : FR G w (F.args args) (vs.toArray ++ Array.replicate (k - vs.toArray.size) undef) := by
  intro t
  have e : ((vs.toArray ++ Array.replicate (k - vs.toArray.size) undef).getD t undef) = vs.getD t undef := by
    by_cases ht : t < vs.length
    · simp [List.getD, Array.getElem?_append, ht]
    · simp only [List.getD, Array.getD_eq_getD_getElem?, Array.getElem?_append, List.size_toArray, ht, if_false, List.getElem?_eq_none (Nat.le_of_not_lt ht)]
      simp only [Array.getElem?_replicate]
      split <;> rfl
  simp only [e, F.args]
  by_cases ht : t < args.length
  · have := hr t ht (hl ▸ ht)
    simpa [List.getD, ht, hl ▸ ht] using this
  · simp only [List.getD, List.getElem?_eq_none (Nat.le_of_not_lt ht), List.getElem?_eq_none (Nat.le_of_not_lt (hl ▸ ht)), Option.getD_none]
    exact .tp [] [] rfl (fun j h => by simp at h)
/-- What is handed back. -/
theorem res_fin {P : Program} {fn : Func} {tmps : Array Value} {f : F} {m m' : M} {G G' : Ghost} {w w' : World} {R : PV → M → Prop} (hI : Inv G m w) (hE : Ext G w G' w') (hI' : Inv G' m' w') (hF : FR G' w' f tmps)
    (ha : aRes P f m' fn.results.toList (fun vs => ∃ v' m'', Leave m m' (pack vs) v' m'' ∧ R v' m'')) : ∃ y, (results fn tmps).run P w' = .ok y w' ∧ ∃ v m'' G'', R v m'' ∧ Rep G'' w' v y ∧ Inv G'' m'' w' ∧ Ext G w G'' w' := by
  obtain ⟨us, ys, ⟨v', m'', hlv, hR⟩, h2, h3, h4⟩ := aRes_sound hI' hF _ ha
  have hpk : ∃ y, Rep G' w' (pack us) y ∧ (results fn tmps).run P w' = .ok y w' := by
    have e : (fn.results.mapM (resF tmps)).run P w' = .ok ys.toArray w' := by
      rw [Array.mapM_eq_mapM_toList, ← bind_pure_comp, Sem.run_bind, h4]
      rfl
    by_cases h1 : ys.length = 1
    · obtain ⟨y, rfl⟩ := List.length_eq_one_iff.1 h1
      obtain ⟨u, rfl⟩ := List.length_eq_one_iff.1 (h2.trans h1)
      refine ⟨y, by simpa [pack] using h3 0 (by simp) (by simp), ?_⟩
      rw [results_run, e]
      rfl
    · refine ⟨.tuple ys.toArray, ?_, ?_⟩
      · have : pack us = .tp us := by
          cases us with
          | nil => rfl
          | cons u us =>
            cases us with
            | nil => simp at h2; omega
            | cons u' us => rfl
        rw [this]
        exact .tp us ys h2 h3
      · rw [results_run, e]
        simp only [Result.andThen_ok, List.size_toArray, h1, dite_false]
  obtain ⟨y, hy1, hy2⟩ := hpk
  obtain ⟨G'', g1, g2, g3⟩ := hlv.sound hI hE hI' hy1
  exact ⟨y, hy2, v', m'', G'', hR, g1, g2, g3⟩

/-- A closure that is run as its frame returns; as its frame panics with a value, and takes that up. -/
def DRet (P : Program) (h : FuncId) (args : List PV) (m : M) (Q : M → Prop) : Prop := ∀ (G : Ghost) (w : World) (vs : List Value), Inv G m w → args.length = vs.length → (∀ j (h1 : j < args.length) (h2 : j < vs.length), Rep G w args[j] vs[j]) →
  CallsD P h vs.toArray .returning w fun e u' w' => e = .returned (.tuple #[]) ∧ u' = .returning ∧ ∃ m' G', Q m' ∧ Inv G' m' w' ∧ Ext G w G' w'
def DPan (P : Program) (h : FuncId) (args : List PV) (v : PV) (m : M) (Q : M → Prop) : Prop := ∀ (G : Ghost) (w : World) (vs : List Value) (y : Value), Inv G m w → args.length = vs.length → (∀ j (h1 : j < args.length) (h2 : j < vs.length), Rep G w args[j] vs[j]) → Rep G w v y →
  CallsD P h vs.toArray (.panicking [{ v := y, recovered := false }]) w fun e u' w' => e = .returned (.tuple #[]) ∧ u' = .panicking [{ v := y, recovered := true }] ∧ ∃ m' G', Q m' ∧ Inv G' m' w' ∧ Ext G w G' w'

/-- One slot of a frame is known. -/
def F.only (k : Nat) (v : PV) : F := fun t => if t = k then v else .junk

theorem ACalls.enterD {P : Program} {mu : List Nat} {g : FuncId} {fn : Func} {A C : Code} {id kp tm h : Nat} {mk df : Oper} {cs : Array Operand} {dc : Call} {args : List PV} {m : M} {R : PV → M → Prop}
    (hmix : P.follows .mixedOrders = true) (hf : P.funcs[g]? = some fn) (hb : fn.body = some (.seq A (.seq (.region id #[mk, df] false) C))) (hc : canCall P g = true) (hch : canCall P h = true)
    (hmk : mk.op = .makeFunc (.func h) #[] cs ∧ mk.dst = some tm ∧ mk.guard = none) (hdf : df.op = .defer dc ∧ dc.callee = .value (.tmp tm) ∧ dc.args = #[] ∧ df.dst = none ∧ df.guard = none)
    (hbA : Go.Code.bd (.of fn.ntmps) A = true) (hbC : ∀ kv, Go.Code.bd ⟨fn.ntmps, kp, kv⟩ C = true) (htm : tm < fn.ntmps ∧ tm ≠ kp) (hn : args.length ≤ fn.ntmps)
    (X : F → M → Prop) (hA : aCode P mu noZ A (fun e f1 m1 => e = .normal ∧ X f1 m1) (F.args args) m)
    (hX : ∀ f1 m1, X f1 m1 → ∃ (p : PV) (Kc : M → Prop) (Z : PV → M → Prop), f1 kp = p ∧ (∃ o, p = .bp o 0) ∧
      aCode P mu Z C (fun e f2 m2 => (e = .normal ∨ e = .ret) ∧ Kc m2) (F.put f1 (some tm) (.fn (.func h) [] (cs.toList.map (ev f1)))) m1 ∧
      (∀ m2, Kc m2 → DRet P h (cs.toList.map (ev f1)) m2 (fun m3 => aRes P (F.only kp p) m3 fn.results.toList (fun vs => ∃ v' m'', Leave m m3 (pack vs) v' m'' ∧ R v' m''))) ∧
      (∀ v m2, Z v m2 → DPan P h (cs.toList.map (ev f1)) v m2 (fun m3 => aRes P (F.only kp p) m3 fn.results.toList (fun vs => ∃ v' m'', Leave m m3 (pack vs) v' m'' ∧ R v' m'')))) :
    ACalls P g args m R := by
  refine ⟨hc, fun G w vs hI hl hr => calls_of_wp_defers hf hb ?_⟩
  have hS : St (.of fn.ntmps) [] G (F.args args) m { tmps := vs.toArray ++ Array.replicate (fn.ntmps - vs.toArray.size) undef, defers := [] } w :=
    ⟨enter_fr hl hr, hI, rfl, by simp [Fi.of]; omega, by simp [Fi.of]; rw [Array.getElem?_eq_none (by simp; omega)]; rfl⟩
  refine wp_seq (wp_mono (aCode_sound hmix A hA hbA hS) fun e a1 w1 hl1 => ?_)
  rcases hl1 with ⟨G1, f1, m1, ⟨rfl, hx⟩, hS1, hE1⟩ | ⟨y, v, m', G', rfl, hz, _⟩
  case inr => exact hz.elim
  obtain ⟨p, Kc, Z, hp, ⟨o, ho⟩, hC, hK1, hK2⟩ := hX f1 m1 hx
  obtain ⟨hm1, hm2, hm3⟩ := hmk
  obtain ⟨hd1, hd2, hd3, hd4, hd5⟩ := hdf
  -- the closure is made, and put by
  have hclo : ∃ cvs : List Value, (cs.toList.map (ev f1)).length = cvs.length ∧ (∀ j (h1 : j < (cs.toList.map (ev f1)).length) (h2 : j < cvs.length), Rep G1 w1 (cs.toList.map (ev f1))[j] cvs[j]) ∧ (cs.map a1.eval) = cvs.toArray := by
    obtain ⟨q1, q2⟩ := reps_of hS1.fr cs.toList
    exact ⟨_, q1, q2, by apply Array.ext'; simp⟩
  obtain ⟨cvs, c1, c2, c3⟩ := hclo
  let clo : Value := .func (.func h) #[] cvs.toArray
  let a2 : Act := a1.put (some tm) clo
  let d : Deferred := { target := .fn (.func h) cvs.toArray, args := #[] }
  have hmkr : (execOp a1.eval mk).run P w1 = .ok (.value clo) w1 := by
    simp [execOp, hm1, Instr.makeFunc, c3, clo]
  have hlt : tm < a1.tmps.size := by rw [hS1.size]; exact htm.1
  have hev : a2.eval (.tmp tm) = clo := by
    show a2.tmps.getD tm undef = _
    simp [a2, Act.put, hlt]
  have hdfr : (execOp a2.eval df).run P w1 = .ok (.defer d) w1 := by
    simp [execOp, hd1, resolve, hd2, hd3, hev, Deferred.ofValue, clo, d]
  have hrepc : Rep G1 w1 (.fn (.func h) [] (cs.toList.map (ev f1))) clo := by
    have := Rep.fn (G := G1) (w := w1) (.func h) [] _ [] _ rfl c1 (fun j h => by simp at h) c2
    exact this
  have hS2 : St ⟨fn.ntmps, kp, a1.tmps.getD kp undef⟩ [d] G1 (F.put f1 (some tm) (.fn (.func h) [] (cs.toList.map (ev f1)))) m1 { a2 with defers := d :: a2.defers } w1 := by
    refine ⟨hS1.fr.put hrepc (fun t ht => by cases ht; exact hlt), hS1.inv, ?_, ?_, ?_⟩
    · show d :: a1.defers = [d]
      rw [hS1.defers]
    · show (a1.tmps.setIfInBounds tm clo).size = fn.ntmps
      rw [Array.size_setIfInBounds]; exact hS1.size
    · show (a1.put (some tm) clo).tmps.getD kp undef = _
      rw [put_kept htm.2]
  refine wp_seq (wp_region_list ?_)
  show wpList P #[mk, df] _ [mk, df] a1 w1
  unfold wpList
  rw [if_pos (by simp [Region.wanted, hm3])]
  refine .inl ?_
  unfold Oper.wp
  rw [hmkr]
  show wpList P #[mk, df] _ [df] (a1.put mk.dst clo) w1
  rw [hm2]
  unfold wpList
  rw [if_pos (by simp [Region.wanted, hd5])]
  refine .inl ?_
  unfold Oper.wp
  rw [hdfr]
  simp only [Oper.upon]
  rw [hd4]
  show C.wp P (bodyPostD P fn _) { a2 with defers := d :: a2.defers } w1
  have hinv : ∀ w2 : World, (invoke (.fn (.func h) cvs.toArray) #[]).run P w2 = .ok (.enter h cvs.toArray) w2 := fun w2 => by
    simp only [invoke]
    rw [run_callFunc hch]
    simp
  have hkp : Rep G1 w1 p (a1.tmps.getD kp undef) := hp ▸ hS1.fr kp
  -- behind the closure
  have tail : ∀ (a3 : Act) (w3 : World) (G3 : Ghost) (m3 m4 : M) (w4 : World) (G4 : Ghost), a3.tmps.getD kp undef = a1.tmps.getD kp undef → Ext G1 w1 G3 w3 → Ext G3 w3 G4 w4 → Inv G4 m4 w4 →
      aRes P (F.only kp p) m4 fn.results.toList (fun vs => ∃ v' m'', Leave m m4 (pack vs) v' m'' ∧ R v' m'') →
      Leaves P fn a3.tmps (fun e w' => (∃ y v m' G', e = .returned y ∧ R v m' ∧ Rep G' w' v y ∧ Inv G' m' w' ∧ Ext G w G' w') ∨ (∃ y v m' G', e = .panicked [{ v := y, recovered := false }] ∧ noZ v m' ∧ Rep G' w' v y ∧ Inv G' m' w' ∧ Ext G w G' w')) [] .returning w4 := by
    intro a3 w3 G3 m3 m4 w4 G4 hk3 hE3 hE4 hI4 ha
    have hF : FR G4 w4 (F.only kp p) a3.tmps := fun t => by
      unfold F.only
      split
      · rename_i ht
        subst ht
        rw [hk3]
        exact (hkp.mono hE3).mono hE4
      · exact .junk _
    obtain ⟨y, hy1, v, m'', G'', q1, q2, q3, q4⟩ := res_fin hI ((hE1.trans hE3).trans hE4) hI4 hF ha
    exact ⟨y, hy1, .inl ⟨y, v, m'', G'', rfl, q1, q2, q3, q4⟩⟩
  refine wp_mono (aCode_sound hmix C hC (hbC _) hS2) fun e a3 w3 hl3 => ?_
  rcases hl3 with ⟨G3, f3, m3, ⟨he, hk⟩, hS3, hE3⟩ | ⟨y, v, m3, G3, rfl, hz, hrv, hI3, hE3, hds, hkk⟩
  · have hgo : Leaves P fn a3.tmps (fun e w' => (∃ y v m' G', e = .returned y ∧ R v m' ∧ Rep G' w' v y ∧ Inv G' m' w' ∧ Ext G w G' w') ∨ (∃ y v m' G', e = .panicked [{ v := y, recovered := false }] ∧ noZ v m' ∧ Rep G' w' v y ∧ Inv G' m' w' ∧ Ext G w G' w')) a3.defers .returning w3 := by
      rw [hS3.defers]
      refine leaves_cons (by simp) (hinv w3) ?_
      refine (hK1 m3 hk G3 w3 cvs hS3.inv c1 (fun j q1 q2 => (c2 j q1 q2).mono hE3)).mono ?_
      rintro e u' w4 ⟨rfl, rfl, m4, G4, ha, hI4, hE4⟩
      exact tail a3 w3 G3 m3 m4 w4 G4 hS3.kept hE3 hE4 hI4 ha
    rcases he with rfl | rfl <;> exact hgo
  · show Leaves P fn a3.tmps _ a3.defers _ w3
    rw [hds]
    refine leaves_cons (by simp) (hinv w3) ?_
    refine (hK2 v m3 hz G3 w3 cvs y hI3 c1 (fun j q1 q2 => (c2 j q1 q2).mono hE3) hrv).mono ?_
    rintro e u' w4 ⟨rfl, rfl, m4, G4, ha, hI4, hE4⟩
    exact tail a3 w3 G3 m3 m4 w4 G4 hkk hE3 hE4 hI4 ha
end Go.Proofs.Ytamdnlnoioglnaa
