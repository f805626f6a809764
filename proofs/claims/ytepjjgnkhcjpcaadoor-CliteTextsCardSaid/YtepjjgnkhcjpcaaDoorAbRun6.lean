/-
  A function that defers one closure ahead of its work, its results kept as they stand.
-/
import Derived.Test.YtepjjgnkhcjpcaaDoorGD
import Derived.Test.YtepjjgnkhcjpcaaDoorAbRec
set_option linter.unusedVariables false
set_option linter.unusedSimpArgs false
namespace Go.Proofs.YtepjjgnkhcjpcaaDoor
open Go Go.RowKit

/-- Pieces of code, one behind the other, each to its end. -/
def aPre (P : Program) (mu : List Nat) : List Code → (F → M → Prop) → F → M → Prop
  | [], X, f, m => X f m
  | A :: l, X, f, m => aCode P mu noZ A (fun e f1 m1 => e = .normal ∧ aPre P mu l X f1 m1) f m
theorem aPre_sound {P : Program} {mu : List Nat} {n : Fi} {ds : List Deferred} (hmix : P.follows .mixedOrders = true) {tail : Code} {X : F → M → Prop} {Q : Exit → Act → World → Prop} {G0 : Ghost} {w0 : World} : ∀ (l : List Code) {f : F} {m : M} {G : Ghost} {a : Act} {w : World},
    aPre P mu l X f m → (∀ A ∈ l, Go.Code.bd n A = true) → St n ds G f m a w → Ext G0 w0 G w → (∀ G1 f1 m1 a1 w1, X f1 m1 → St n ds G1 f1 m1 a1 w1 → Ext G0 w0 G1 w1 → tail.wp P Q a1 w1) → (l.foldr .seq tail).wp P Q a w
  | [], f, m, G, a, w, h, _, hS, hE, hK => hK G f m a w h hS hE
  | A :: l, f, m, G, a, w, h, hb, hS, hE, hK => by
    simp only [List.foldr_cons]
    refine wp_seq (wp_mono (aCode_sound hmix A h (hb A (by simp)) hS) fun e a1 w1 hl1 => ?_)
    rcases hl1 with ⟨G1, f1, m1, ⟨rfl, hx⟩, hS1, hE1⟩ | ⟨y, v, m', G', rfl, hz, _⟩
    · exact aPre_sound hmix l hx (fun A' hA' => hb A' (by simp [hA'])) hS1 (hE.trans hE1) hK
    · exact hz.elim

theorem ACalls.enterDL {P : Program} {mu : List Nat} {g : FuncId} {fn : Func} {l : List Code} {C : Code} {id tm h : Nat} {kps : List Nat} {mk df : Oper} {cs : Array Operand} {dc : Call} {args : List PV} {m : M} {R : PV → M → Prop}
    (hmix : P.follows .mixedOrders = true) (hf : P.funcs[g]? = some fn) (hb : fn.body = some (l.foldr .seq (.seq (.region id #[mk, df] false) C))) (hc : canCall P g = true) (hch : canCall P h = true)
    (hmk : mk.op = .makeFunc (.func h) #[] cs ∧ mk.dst = some tm ∧ mk.guard = none) (hdf : df.op = .defer dc ∧ dc.callee = .value (.tmp tm) ∧ dc.args = #[] ∧ df.dst = none ∧ df.guard = none)
    (hbA : ∀ A ∈ l, Go.Code.bd (.of fn.ntmps) A = true) (hbC : ∀ kv, Go.Code.bd ⟨fn.ntmps, kps, kv⟩ C = true) (htm : tm < fn.ntmps ∧ ∀ k ∈ kps, tm ≠ k) (hn : args.length ≤ fn.ntmps)
    (X : F → M → Prop) (hA : aPre P mu l X (F.args args) m)
    (hX : ∀ f1 m1, X f1 m1 → ∃ (Kc : M → Prop) (Z : PV → M → Prop),
      aCode P mu Z C (fun e f2 m2 => (e = .normal ∨ e = .ret) ∧ Kc m2) (F.put f1 (some tm) (.fn (.func h) [] (cs.toList.map (ev f1)))) m1 ∧
      (∀ m2, Kc m2 → DRet P h (cs.toList.map (ev f1)) m2 (fun m3 => aRes P (F.only kps f1) m3 fn.results.toList (fun vs => R (pack vs) m3))) ∧
      (∀ v m2, Z v m2 → DPan P h (cs.toList.map (ev f1)) v m2 (fun m3 => aRes P (F.only kps f1) m3 fn.results.toList (fun vs => R (pack vs) m3)))) :
    ACalls P g args m R := by
  refine ⟨hc, fun G w vs hI hl hr => calls_of_wp_defers hf hb ?_⟩
  have hS : St (.of fn.ntmps) [] G (F.args args) m { tmps := vs.toArray ++ Array.replicate (fn.ntmps - vs.toArray.size) undef, defers := [] } w :=
    ⟨enter_fr hl hr, hI, rfl, by simp [Fi.of]; omega, fun k hk => by simp [Fi.of] at hk⟩
  refine aPre_sound hmix l hA hbA hS (Ext.refl _ _) fun G1 f1 m1 a1 w1 hx hS1 hE1 => ?_
  obtain ⟨Kc, Z, hC, hK1, hK2⟩ := hX f1 m1 hx
  obtain ⟨hm1, hm2, hm3⟩ := hmk
  obtain ⟨hd1, hd2, hd3, hd4, hd5⟩ := hdf
  -- the closure is made, and put by
  have hclo : ∃ cvs : List Value, (cs.toList.map (ev f1)).length = cvs.length ∧ (∀ j (h1 : j < (cs.toList.map (ev f1)).length) (h2 : j < cvs.length), Rep G1 w1 (cs.toList.map (ev f1))[j] cvs[j]) ∧ (cs.map a1.eval) = cvs.toArray := by
    obtain ⟨q1, q2⟩ := reps_of hS1.fr cs.toList
    exact ⟨_, q1, q2, by apply Array.ext'; simp⟩
  obtain ⟨cvs, c1, c2, c3⟩ := hclo
  let clo : Value := .func (.func h) #[] cvs.toArray
  let a2 : Act := a1.put (some tm) clo
  let d : Deferred := { target := .fn (.func h) cvs.toArray, args := #[] }
  have hmkr : (execOp a1.eval mk).run P w1 = .ok (.value clo) w1 := by
    simp [execOp, hm1, Instr.makeFunc, c3, clo]
  have hlt : tm < a1.tmps.size := by rw [hS1.size]; exact htm.1
  have hev : a2.eval (.tmp tm) = clo := by
    show a2.tmps.getD tm undef = _
    simp [a2, Act.put, hlt]
  have hdfr : (execOp a2.eval df).run P w1 = .ok (.defer d) w1 := by
    simp [execOp, hd1, resolve, hd2, hd3, hev, Deferred.ofValue, clo, d]
  have hrepc : Rep G1 w1 (.fn (.func h) [] (cs.toList.map (ev f1))) clo := by
    have := Rep.fn (G := G1) (w := w1) (.func h) [] _ [] _ rfl c1 (fun j h => by simp at h) c2
    exact this
  have hS2 : St ⟨fn.ntmps, kps, fun k => a1.tmps.getD k undef⟩ [d] G1 (F.put f1 (some tm) (.fn (.func h) [] (cs.toList.map (ev f1)))) m1 { a2 with defers := d :: a2.defers } w1 := by
    refine ⟨hS1.fr.put hrepc (fun t ht => by cases ht; exact hlt), hS1.inv, ?_, ?_, ?_⟩
    · show d :: a1.defers = [d]
      rw [hS1.defers]
    · show (a1.tmps.setIfInBounds tm clo).size = fn.ntmps
      rw [Array.size_setIfInBounds]; exact hS1.size
    · intro k hk
      show (a1.put (some tm) clo).tmps.getD k undef = _
      rw [put_kept (htm.2 k hk)]
  refine wp_seq (wp_region_list ?_)
  show wpList P #[mk, df] _ [mk, df] a1 w1
  unfold wpList
  rw [if_pos (by simp [Region.wanted, hm3])]
  refine .inl ?_
  unfold Oper.wp
  rw [hmkr]
  show wpList P #[mk, df] _ [df] (a1.put mk.dst clo) w1
  rw [hm2]
  unfold wpList
  rw [if_pos (by simp [Region.wanted, hd5])]
  refine .inl ?_
  unfold Oper.wp
  rw [hdfr]
  simp only [Oper.upon]
  rw [hd4]
  show C.wp P (bodyPostD P fn _) { a2 with defers := d :: a2.defers } w1
  have hinv : ∀ w2 : World, (invoke (.fn (.func h) cvs.toArray) #[]).run P w2 = .ok (.enter h cvs.toArray) w2 := fun w2 => by
    simp only [invoke]
    rw [run_callFunc hch]
    simp
  -- behind the closure
  have tail : ∀ (a3 : Act) (w3 : World) (G3 : Ghost) (m3 m4 : M) (w4 : World) (G4 : Ghost), (∀ k ∈ kps, a3.tmps.getD k undef = a1.tmps.getD k undef) → Ext G1 w1 G3 w3 → Ext G3 w3 G4 w4 → Inv G4 m4 w4 →
      aRes P (F.only kps f1) m4 fn.results.toList (fun vs => R (pack vs) m4) →
      Leaves P fn a3.tmps (fun e w' => (∃ y v m' G', e = .returned y ∧ R v m' ∧ Rep G' w' v y ∧ Inv G' m' w' ∧ Ext G w G' w') ∨ (∃ y v m' G', e = .panicked [{ v := y, recovered := false }] ∧ noZ v m' ∧ Rep G' w' v y ∧ Inv G' m' w' ∧ Ext G w G' w')) [] .returning w4 := by
    intro a3 w3 G3 m3 m4 w4 G4 hk3 hE3 hE4 hI4 ha
    have hF : FR G4 w4 (F.only kps f1) a3.tmps := fun t => by
      unfold F.only
      split
      · rename_i ht
        rw [hk3 t ht]
        exact ((hS1.fr t).mono hE3).mono hE4
      · exact .junk _
    obtain ⟨y, v, hy1, q1, q2⟩ := res_keep hI4 hF ha
    exact ⟨y, hy1, .inl ⟨y, v, m4, G4, rfl, q1, q2, hI4, (hE1.trans hE3).trans hE4⟩⟩
  refine wp_mono (aCode_sound hmix C hC (hbC _) hS2) fun e a3 w3 hl3 => ?_
  rcases hl3 with ⟨G3, f3, m3, ⟨he, hk⟩, hS3, hE3⟩ | ⟨y, v, m3, G3, rfl, hz, hrv, hI3, hE3, hds, hkk⟩
  · have hgo : Leaves P fn a3.tmps (fun e w' => (∃ y v m' G', e = .returned y ∧ R v m' ∧ Rep G' w' v y ∧ Inv G' m' w' ∧ Ext G w G' w') ∨ (∃ y v m' G', e = .panicked [{ v := y, recovered := false }] ∧ noZ v m' ∧ Rep G' w' v y ∧ Inv G' m' w' ∧ Ext G w G' w')) a3.defers .returning w3 := by
      rw [hS3.defers]
      refine leaves_cons (by simp) (hinv w3) ?_
      refine (hK1 m3 hk G3 w3 cvs hS3.inv c1 (fun j q1 q2 => (c2 j q1 q2).mono hE3)).mono ?_
      rintro e u' w4 ⟨rfl, rfl, m4, G4, ha, hI4, hE4⟩
      exact tail a3 w3 G3 m3 m4 w4 G4 hS3.kept hE3 hE4 hI4 ha
    rcases he with rfl | rfl <;> exact hgo
  · show Leaves P fn a3.tmps _ a3.defers _ w3
    rw [hds]
    refine leaves_cons (by simp) (hinv w3) ?_
    refine (hK2 v m3 hz G3 w3 cvs y hI3 c1 (fun j q1 q2 => (c2 j q1 q2).mono hE3) hrv).mono ?_
    rintro e u' w4 ⟨rfl, rfl, m4, G4, ha, hI4, hE4⟩
    exact tail a3 w3 G3 m3 m4 w4 G4 hkk hE3 hE4 hI4 ha
theorem ACalls.enterDM {P : Program} {mu : List Nat} {g : FuncId} {fn : Func} {l : List Code} {C : Code} {id h : Nat} {kps : List Nat} {df : Oper} {cs : Array Operand} {dc : Call} {args : List PV} {m : M} {R : PV → M → Prop}
    (hmix : P.follows .mixedOrders = true) (hf : P.funcs[g]? = some fn) (hb : fn.body = some (l.foldr .seq (.seq (.region id #[df] false) C))) (hc : canCall P g = true) (hch : canCall P h = true)
    (hdf : df.op = .defer dc ∧ dc.callee = .value (.func h) ∧ dc.args = cs ∧ df.dst = none ∧ df.guard = none)
    (hbA : ∀ A ∈ l, Go.Code.bd (.of fn.ntmps) A = true) (hbC : ∀ kv, Go.Code.bd ⟨fn.ntmps, kps, kv⟩ C = true) (hn : args.length ≤ fn.ntmps)
    (X : F → M → Prop) (hA : aPre P mu l X (F.args args) m)
    (hX : ∀ f1 m1, X f1 m1 → ∃ (Kc : M → Prop) (Z : PV → M → Prop),
      aCode P mu Z C (fun e f2 m2 => (e = .normal ∨ e = .ret) ∧ Kc m2) f1 m1 ∧
      (∀ m2, Kc m2 → DRet P h (cs.toList.map (ev f1)) m2 (fun m3 => aRes P (F.only kps f1) m3 fn.results.toList (fun vs => R (pack vs) m3))) ∧
      (∀ v m2, Z v m2 → DPan P h (cs.toList.map (ev f1)) v m2 (fun m3 => aRes P (F.only kps f1) m3 fn.results.toList (fun vs => R (pack vs) m3)))) :
    ACalls P g args m R := by
  refine ⟨hc, fun G w vs hI hl hr => calls_of_wp_defers hf hb ?_⟩
  have hS : St (.of fn.ntmps) [] G (F.args args) m { tmps := vs.toArray ++ Array.replicate (fn.ntmps - vs.toArray.size) undef, defers := [] } w :=
    ⟨enter_fr hl hr, hI, rfl, by simp [Fi.of]; omega, fun k hk => by simp [Fi.of] at hk⟩
  refine aPre_sound hmix l hA hbA hS (Ext.refl _ _) fun G1 f1 m1 a1 w1 hx hS1 hE1 => ?_
  obtain ⟨Kc, Z, hC, hK1, hK2⟩ := hX f1 m1 hx
  obtain ⟨hd1, hd2, hd3, hd4, hd5⟩ := hdf
  -- the closure is made, and put by
  have hclo : ∃ cvs : List Value, (cs.toList.map (ev f1)).length = cvs.length ∧ (∀ j (h1 : j < (cs.toList.map (ev f1)).length) (h2 : j < cvs.length), Rep G1 w1 (cs.toList.map (ev f1))[j] cvs[j]) ∧ (cs.map a1.eval) = cvs.toArray := by
    obtain ⟨q1, q2⟩ := reps_of hS1.fr cs.toList
    exact ⟨_, q1, q2, by apply Array.ext'; simp⟩
  obtain ⟨cvs, c1, c2, c3⟩ := hclo
  let d : Deferred := { target := .fn (.func h) #[], args := cvs.toArray }
  have hevf : a1.eval (.func h) = .func (.func h) #[] #[] := rfl
  have hdfr : (execOp a1.eval df).run P w1 = .ok (.defer d) w1 := by
    simp [execOp, hd1, resolve, hd2, hd3, c3, hevf, Deferred.ofValue, d]
  have hS2 : St ⟨fn.ntmps, kps, fun k => a1.tmps.getD k undef⟩ [d] G1 f1 m1 { a1 with defers := d :: a1.defers } w1 := by
    refine ⟨hS1.fr, hS1.inv, ?_, hS1.size, fun k hk => rfl⟩
    show d :: a1.defers = [d]
    rw [hS1.defers]
  refine wp_seq (wp_region_list ?_)
  show wpList P #[df] _ [df] a1 w1
  unfold wpList
  rw [if_pos (by simp [Region.wanted, hd5])]
  refine .inl ?_
  unfold Oper.wp
  rw [hdfr]
  simp only [Oper.upon]
  rw [hd4]
  show C.wp P (bodyPostD P fn _) { a1 with defers := d :: a1.defers } w1
  have hinv : ∀ w2 : World, (invoke (.fn (.func h) #[]) cvs.toArray).run P w2 = .ok (.enter h cvs.toArray) w2 := fun w2 => by
    simp only [invoke]
    rw [run_callFunc hch]
    simp
  -- behind the closure
  have tail : ∀ (a3 : Act) (w3 : World) (G3 : Ghost) (m3 m4 : M) (w4 : World) (G4 : Ghost), (∀ k ∈ kps, a3.tmps.getD k undef = a1.tmps.getD k undef) → Ext G1 w1 G3 w3 → Ext G3 w3 G4 w4 → Inv G4 m4 w4 →
      aRes P (F.only kps f1) m4 fn.results.toList (fun vs => R (pack vs) m4) →
      Leaves P fn a3.tmps (fun e w' => (∃ y v m' G', e = .returned y ∧ R v m' ∧ Rep G' w' v y ∧ Inv G' m' w' ∧ Ext G w G' w') ∨ (∃ y v m' G', e = .panicked [{ v := y, recovered := false }] ∧ noZ v m' ∧ Rep G' w' v y ∧ Inv G' m' w' ∧ Ext G w G' w')) [] .returning w4 := by
    intro a3 w3 G3 m3 m4 w4 G4 hk3 hE3 hE4 hI4 ha
    have hF : FR G4 w4 (F.only kps f1) a3.tmps := fun t => by
      unfold F.only
      split
      · rename_i ht
        rw [hk3 t ht]
        exact ((hS1.fr t).mono hE3).mono hE4
      · exact .junk _
    obtain ⟨y, v, hy1, q1, q2⟩ := res_keep hI4 hF ha
    exact ⟨y, hy1, .inl ⟨y, v, m4, G4, rfl, q1, q2, hI4, (hE1.trans hE3).trans hE4⟩⟩
  refine wp_mono (aCode_sound hmix C hC (hbC _) hS2) fun e a3 w3 hl3 => ?_
  rcases hl3 with ⟨G3, f3, m3, ⟨he, hk⟩, hS3, hE3⟩ | ⟨y, v, m3, G3, rfl, hz, hrv, hI3, hE3, hds, hkk⟩
  · have hgo : Leaves P fn a3.tmps (fun e w' => (∃ y v m' G', e = .returned y ∧ R v m' ∧ Rep G' w' v y ∧ Inv G' m' w' ∧ Ext G w G' w') ∨ (∃ y v m' G', e = .panicked [{ v := y, recovered := false }] ∧ noZ v m' ∧ Rep G' w' v y ∧ Inv G' m' w' ∧ Ext G w G' w')) a3.defers .returning w3 := by
      rw [hS3.defers]
      refine leaves_cons (by simp) (hinv w3) ?_
      refine (hK1 m3 hk G3 w3 cvs hS3.inv c1 (fun j q1 q2 => (c2 j q1 q2).mono hE3)).mono ?_
      rintro e u' w4 ⟨rfl, rfl, m4, G4, ha, hI4, hE4⟩
      exact tail a3 w3 G3 m3 m4 w4 G4 hS3.kept hE3 hE4 hI4 ha
    rcases he with rfl | rfl <;> exact hgo
  · show Leaves P fn a3.tmps _ a3.defers _ w3
    rw [hds]
    refine leaves_cons (by simp) (hinv w3) ?_
    refine (hK2 v m3 hz G3 w3 cvs y hI3 c1 (fun j q1 q2 => (c2 j q1 q2).mono hE3) hrv).mono ?_
    rintro e u' w4 ⟨rfl, rfl, m4, G4, ha, hI4, hE4⟩
    exact tail a3 w3 G3 m3 m4 w4 G4 hkk hE3 hE4 hI4 ha
/-- Which slots are written does not hang on what the kept slot holds. -/
theorem bd_kv (n : Nat) (k : List Nat) (v v' : Nat → Value) : ∀ c, Go.Code.bd ⟨n, k, v⟩ c = Go.Code.bd ⟨n, k, v'⟩ c := by
  intro c
  induction c with
  | region id ops d => rfl
  | seq a b iha ihb => simp only [Go.Code.bd, iha, ihb]
  | cond x a b iha ihb => simp only [Go.Code.bd, iha, ihb]
  | block id c ih => simp only [Go.Code.bd, ih]
  | loop c ih => simp only [Go.Code.bd, ih]
  | _ => rfl
end Go.Proofs.YtepjjgnkhcjpcaaDoor
