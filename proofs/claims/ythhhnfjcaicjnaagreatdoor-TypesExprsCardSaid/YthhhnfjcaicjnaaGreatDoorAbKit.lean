/-
 The steps of a walk on values without addresses.
-/
-- halved
import Derived.Test.YthhhnfjcaicjnaaGreatDoorAbT
import Derived.Test.YthhhnfjcaicjnaaGreatDoorAbDrw
import Derived.IntWalk
set_option linter.unusedVariables false
namespace Go.Proofs.YthhhnfjcaicjnaaGreatDoor
open Nat renaming reduceEqDiff → jA, reduceAdd → jB, reduceMul → jC, reduceLT → jD, reduceLeDiff → jE, reduceBEq → jF, reduceBNe → jG
open Int renaming reduceLE → jH, reduceLT → jI, reduceToNat → jJ, reduceEq → jK
open Go

section
variable {P : Program} {mu : List Nat} {Z : PV → M → Prop} {K : Exit → F → M → Prop} {f : F} {m : M}
theorem aSeq {x y : Code} (h : ∀ X : F → M → Prop, (∀ f m, aCode P mu Z y K f m → X f m) → aCode P mu Z x (aThen X K) f m) : aCode P mu Z (.seq x y) K f m := h _ (fun _ _ h => h)
theorem aReg {id : Nat} {l : List Oper} (h : aOps P mu Z l.toArray l (K .normal) f m) : aCode P mu Z (.region id l.toArray false) K f m := ⟨f, m, .inl ⟨rfl, rfl⟩, h⟩
theorem aRegG {id : Nat} {l : List Oper} {f' : F} {m' : M} (hg : GStep f m f' m') (h : aOps P mu Z l.toArray l (K .normal) f' m') : aCode P mu Z (.region id l.toArray false) K f m := ⟨f', m', hg, h⟩
theorem aBlk {id : Nat} {c : Code} (h : aCode P mu Z c (aBlock id K) f m) : aCode P mu Z (.block id c) K f m := h
theorem aIf {c : Operand} {x y : Code} (h : aCond (ev f c) (aCode P mu Z x K f m) (aCode P mu Z y K f m)) : aCode P mu Z (.cond c x y) K f m := h
theorem aSkip (h : K .normal f m) : aCode P mu Z .skip K f m := h
theorem aExit {id : Nat} (h : K (.exit id) f m) : aCode P mu Z (.exit id) K f m := h
theorem aRet (h : K .ret f m) : aCode P mu Z .ret K f m := h
theorem aLoop {c : Code} (I : F → M → Prop) (μ : F → M → Nat) (h0 : I f m) (h : ∀ f m, I f m → aCode P mu Z c (aThen (fun f' m' => I f' m' ∧ μ f' m' < μ f m) K) f m) : aCode P mu Z (.loop c) K f m := ⟨I, μ, h0, .inl h⟩
theorem put_app (f : F) (d : Nat) (v : PV) (t : Nat) : F.put f (some d) v t = if t = d then v else f t := rfl
theorem put_none (f : F) (v : PV) : F.put f none v = f := rfl
theorem ev_tmp (f : F) (t : Nat) : ev f (.tmp t) = f t := rfl
theorem ev_const (f : F) (v : Value) : ev f (.const v) = ofV v := rfl
theorem ev_func (f : F) (g : Nat) : ev f (.func g) = .fn (.func g) [] [] := rfl
theorem ofV_int (k : IntKind) (n : Int) : ofV (.int k n) = .v (.int k n) := rfl
theorem ofV_bool (b : Bool) : ofV (.bool b) = .v (.bool b) := rfl
theorem ofV_string (s : ByteArray) : ofV (.string s) = .v (.string s) := rfl
theorem ofV_nil : ofV (.slice none 0 0) = .sl .full [] := rfl
theorem aThen_n (X : F → M → Prop) : aThen X K .normal = X := rfl
theorem aThen_e (X : F → M → Prop) (i : Nat) : aThen X K (.exit i) = K (.exit i) := rfl
theorem aThen_r (X : F → M → Prop) : aThen X K .ret = K .ret := rfl
theorem aBlock_n (id : Nat) : aBlock id K .normal = K .normal := rfl
theorem aBlock_r (id : Nat) : aBlock id K .ret = K .ret := rfl
theorem aBlock_e (id i : Nat) : aBlock id K (.exit i) f m = if i = id then K .normal f m else K (.exit i) f m := rfl
theorem aCond_b (b : Bool) (x y : Prop) : aCond (.v (.bool b)) x y = ((b = true → x) ∧ (b = false → y)) := rfl
theorem wrap64 {n : Int} (h : -9223372036854775808 ≤ n ∧ n ≤ 9223372036854775807) : IntKind.i64.wrap n = n := IntWalk.i64_in n h
theorem cells_ag (l : List PV) : (PV.ag l).cells = l := rfl
theorem cells_v (x : Value) : (PV.v x).cells = [.v x] := rfl
theorem cells_sl (o : Own) (l : List PV) : (PV.sl o l).cells = [.sl o l] := rfl
theorem cells_mp (i : Nat) : (PV.mp i).cells = [.mp i] := rfl
theorem cells_bp (i o : Nat) : (PV.bp i o).cells = [.bp i o] := rfl
theorem cells_bs (i o l : Nat) : (PV.bs i o l).cells = [.bs i o l] := rfl
theorem cells_gs (i o l : Nat) : (PV.gs i o l).cells = [.gs i o l] := rfl
theorem cells_ep (l : List PV) : (PV.ep l).cells = [.ep l] := rfl
theorem cells_fn (g : Fn) (l r : List PV) : (PV.fn g l r).cells = [.fn g l r] := rfl
theorem cells_ifc (t : TypeId) (x : PV) : (PV.ifc t x).cells = [.ifc t x] := rfl
theorem cells_tp (l : List PV) : (PV.tp l).cells = [.tp l] := rfl
theorem own_no (m : M) (t : Nat) : Own.no.free m t = False := rfl
theorem own_full (m : M) (t : Nat) : Own.full.free m t = True := rfl
theorem own_tok (m : M) (k t : Nat) : (Own.tok k).free m t = m.alive k t := rfl
theorem use_no (m : M) : Own.no.use m = m := rfl
theorem use_full (m : M) : Own.full.use m = m := rfl
theorem use_tok (m : M) (k : Nat) : (Own.tok k).use m = m.kill k := rfl
theorem pack_one (x : PV) : pack [x] = x := rfl
theorem pack_two (x y : PV) : pack [x, y] = .tp [x, y] := rfl
theorem leave_plain {m0 : M} {v : PV} {R : PV → M → Prop} (hb : m.boxes.take m0.nb = m0.boxes) (ht : m.toks.take m0.nt = m0.toks) (hv : v.settle.pure = true) (hR : R v.settle m0) : ∃ v' m', Leave m0 m v v' m' ∧ R v' m' := ⟨_, _, .plain v hb ht hv, hR⟩
theorem leave_same {v : PV} {R : PV → M → Prop} (hv : v.settle.pure = true) (hR : R v.settle m) : ∃ v' m', Leave m m v v' m' ∧ R v' m' := leave_plain (by simp [M.nb]) (by simp [M.nt]) hv hR
end

def M.ext (m : M) (bs : List (Option (List PV))) : M := ⟨m.boxes ++ bs, m.toks⟩
theorem push_ext (m : M) (c : List PV) : m.push c = m.ext [some c] := rfl
theorem ext_ext (m : M) (bs cs : List (Option (List PV))) : (m.ext bs).ext cs = m.ext (bs ++ cs) := by simp [M.ext]
theorem ext_nb (m : M) (bs : List (Option (List PV))) : (m.ext bs).nb = m.nb + bs.length := by simp [M.ext, M.nb]
theorem ext_nt (m : M) (bs : List (Option (List PV))) : (m.ext bs).nt = m.nt := rfl
theorem ext_fresh (m : M) (bs : List (Option (List PV))) (s : Nat) : (m.ext bs).fresh s = (m.fresh s).ext bs := rfl
theorem ext_kill (m : M) (bs : List (Option (List PV))) (s : Nat) : (m.ext bs).kill s = (m.kill s).ext bs := rfl
theorem ext_alive (m : M) (bs : List (Option (List PV))) (t s : Nat) : (m.ext bs).alive t s = m.alive t s := rfl
theorem ext_free (o : Own) (m : M) (bs : List (Option (List PV))) (s : Nat) : o.free (m.ext bs) s = o.free m s := by cases o <;> rfl
theorem ext_use (o : Own) (m : M) (bs : List (Option (List PV))) : o.use (m.ext bs) = (o.use m).ext bs := by cases o <;> rfl
theorem use_nb (o : Own) (m : M) : (o.use m).nb = m.nb := by cases o <;> rfl
theorem fresh_nb (m : M) (s : Nat) : (m.fresh s).nb = m.nb := rfl
theorem kill_nb (m : M) (s : Nat) : (m.kill s).nb = m.nb := rfl
theorem ext_get {m : M} {bs : List (Option (List PV))} {k i : Nat} (h : m.nb = k) : (m.ext bs).get (k + i) = (bs[i]?).join := by
 subst h
 unfold M.get M.ext M.nb
 simp only []
 rw [List.getElem?_append_right (by omega), Nat.add_sub_cancel_left]
theorem ext_get0 {m : M} {bs : List (Option (List PV))} {k : Nat} (h : m.nb = k) : (m.ext bs).get k = (bs[0]?).join := ext_get (i := 0) h
theorem ext_upd {m : M} {bs : List (Option (List PV))} {k i : Nat} {c : List PV} (h : m.nb = k) : (m.ext bs).upd (k + i) c = m.ext (bs.set i (some c)) := by
 subst h
 unfold M.upd M.ext M.nb
 congr 1
 simp only []
 rw [List.set_append_right _ _ (by omega), Nat.add_sub_cancel_left]
theorem ext_upd0 {m : M} {bs : List (Option (List PV))} {k : Nat} {c : List PV} (h : m.nb = k) : (m.ext bs).upd k c = m.ext (bs.set 0 (some c)) := ext_upd (i := 0) h
theorem ext_updOld {m : M} {bs : List (Option (List PV))} {id : Nat} {c : List PV} (h : id < m.nb) : (m.ext bs).upd id c = (m.upd id c).ext bs := by
 unfold M.upd M.ext M.nb at *
 congr 1
 rw [List.set_append_left _ _ h]
theorem upd_nb (m : M) (id : Nat) (c : List PV) : (m.upd id c).nb = m.nb := by simp [M.upd, M.nb]
theorem upd_nt (m : M) (id : Nat) (c : List PV) : (m.upd id c).nt = m.nt := rfl
theorem leave_ext {m : M} {bs : List (Option (List PV))} {v : PV} {R : PV → M → Prop} (hv : v.settle.pure = true) (hR : R v.settle m) : ∃ v' m', Leave m (m.ext bs) v v' m' ∧ R v' m' := leave_plain (by simp [M.nb, M.ext]) (by simp [M.nt, M.ext]) hv hR
section
variable {P : Program} {mu : List Nat} {Z : PV → M → Prop} {K : Exit → F → M → Prop} {f : F} {m : M}
class KW where
 k : PV → M → Prop
 z : PV → M → Prop
def ACallsI (P : Program) (g : FuncId) (args : List PV) (m : M) [q : KW] : Prop := ACallsZ P g args m q.k q.z
theorem callE {g : FuncId} {args : List PV} {m m1 : M} {a : PV} {K Z : PV → M → Prop} (h : ACalls P g args m (fun v m' => v = a ∧ m' = m1)) (hk : K a m1) : @ACallsI P g args m ⟨K, Z⟩ := ACallsZ.mono h (fun v m' ⟨h1, h2⟩ => by rw [h1, h2]; exact hk) (fun _ _ h => h.elim)
theorem callM {g : FuncId} {args : List PV} {m : M} {R K Z : PV → M → Prop} (h : ACalls P g args m R) (hk : ∀ v m', R v m' → K v m') : @ACallsI P g args m ⟨K, Z⟩ := ACallsZ.mono h hk (fun _ _ h => h.elim)
theorem callP {g : FuncId} {args : List PV} {m : M} {R Q K Z : PV → M → Prop} (h : ACallsZ P g args m R Q) (hz : ∀ v m', Q v m' → Z v m') (hk : ∀ v m', R v m' → K v m') : @ACallsI P g args m ⟨K, Z⟩ := ACallsZ.mono h hk hz
theorem getD_map {α : Type} (g : α → PV) (l : List α) (k : Nat) (h : k < l.length) : (l.map g).getD k .junk = g l[k] := by simp [List.getD, h]
def numOf : PV → Nat
 | .v (.int _ n) => n.toNat
 | _ => 0
@[congr] theorem aGuard_congr {c c' : Option Bool} {x y : Prop} (h : c = c') : aGuard c x y = aGuard c' x y := by rw [h]
theorem aGuard_t (x y : Prop) : aGuard (some true) x y = x := by simp [aGuard]
theorem aGuard_f (x y : Prop) : aGuard (some false) x y = y := by simp [aGuard]
theorem ne_b {α : Type} [BEq α] (a b : α) : (a != b) = !(a == b) := rfl
theorem b_eq_t (b : Bool) : (b == true) = b := by cases b <;> rfl
theorem b_eq_f (b : Bool) : (b == false) = !b := by cases b <;> rfl
theorem numOf_v (k : IntKind) (n : Int) : numOf (.v (.int k n)) = n.toNat := rfl
end

def notAlloc (o : Oper) : Bool := match o.op with
 | .alloc _ => false
 | _ => true
theorem fuse_notAlloc {mu : List Nat} {o o' : Oper} (h : notAlloc o = true) : fuse mu o o' = none := by
 unfold notAlloc at h; unfold fuse
 split
 ·rename_i h1 _ _ _ _ _; rw [h1] at h; cases h
 ·rfl
theorem fuse3_notAlloc {mu : List Nat} {o o' o2 : Oper} (h : notAlloc o = true) : fuse3 mu o o' o2 = none := by
 unfold fuse3; rw [fuse_notAlloc h]
def aOne (P : Program) (mu : List Nat) (Z : PV → M → Prop) (ops : Array Oper) (o : Oper) (f : F) (m : M) (Y : F → M → Prop) : Prop := match o.guard with
 | none => lenFact o.op f → aOp P mu Z o f m fun v m' => Y (F.put f o.dst v) m'
 | some (j, want) => aGuard (guardA ops f j want) (aOp P mu Z o f m fun v m' => Y (F.put f o.dst v) m') (Y (F.put f o.dst (.tp [])) m)
theorem aOps_cons {P : Program} {mu : List Nat} {Z : PV → M → Prop} {ops : Array Oper} {o : Oper} {K : F → M → Prop} {f : F} {m : M} (hn : notAlloc o = true) : ∀ (l : List Oper), aOps P mu Z ops (o :: l) K f m ↔ aOne P mu Z ops o f m (fun f m => aOps P mu Z ops l K f m)
 | [] => by rw [aOps.eq_def]; unfold aOne; cases hg : o.guard <;> simp only [hg] <;> exact Iff.rfl
 | [o'] => by rw [aOps.eq_def]; unfold aOne; cases hg : o.guard <;> simp only [fuse_notAlloc hn, hg]
 | o' :: o2 :: r => by rw [aOps.eq_def]; unfold aOne; cases hg : o.guard <;> simp only [fuse_notAlloc hn, fuse3_notAlloc hn, hg]
section
variable {P : Program} {mu : List Nat} {Z : PV → M → Prop} {ops : Array Oper} {K : F → M → Prop} {f : F} {m : M}
def aGo (g : Option (Nat × Bool)) (ops : Array Oper) (f : F) (x y z : Prop) : Prop := match g with
 | none => x
 | some (j, w) => aGuard (guardA ops f j w) y z
@[congr] theorem aGo_congr {g g' : Option (Nat × Bool)} {x y z : Prop} (h : g = g') : aGo g ops f x y z = aGo g' ops f x y z := by rw [h]
theorem aGo_none (x y z : Prop) : aGo none ops f x y z = x := rfl
theorem aGo_some (j : Nat) (w : Bool) (x y z : Prop) : aGo (some (j, w)) ops f x y z = aGuard (guardA ops f j w) y z := rfl
def aEQ (b : Bool) (x y : Prop) : Prop := if b then x else y
@[congr] theorem aEQ_congr {b b' : Bool} {x y : Prop} (h : b = b') : aEQ b x y = aEQ b' x y := by rw [h]
theorem aEQ_t (x y : Prop) : aEQ true x y = x := rfl
theorem aEQ_f (x y : Prop) : aEQ false x y = y := rfl
theorem aOps_nil : aOps P mu Z ops [] K f m = K f m := rfl
def aOpsA (P : Program) (mu : List Nat) (Z : PV → M → Prop) (ops : Array Oper) (o : Oper) (l : List Oper) (K : F → M → Prop) (f : F) (m : M) : Prop := aOps P mu Z ops (o :: l) K f m
theorem aOps_c {d : Option Tmp} {op : Op} {ty : TypeId} {pos : String} {af : Array Edge} {g : Option (Nat × Bool)} {l : List Oper} : aOps P mu Z ops (⟨d, op, ty, pos, af, g⟩ :: l) K f m = aEQ (notAlloc ⟨d, op, ty, pos, af, g⟩) (aGo g ops f (lenFact op f → aOp P mu Z ⟨d, op, ty, pos, af, g⟩ f m fun v m' => aOps P mu Z ops l K (F.put f d v) m') (aOp P mu Z ⟨d, op, ty, pos, af, g⟩ f m fun v m' => aOps P mu Z ops l K (F.put f d v) m') (aOps P mu Z ops l K (F.put f d (.tp [])) m)) (aOpsA P mu Z ops ⟨d, op, ty, pos, af, g⟩ l K f m) := by
 cases hn : notAlloc ⟨d, op, ty, pos, af, g⟩ with
 | false => rfl
 | true =>
  refine propext ((aOps_cons hn l).trans ?_)
  unfold aOne aGo aEQ
  cases g <;> exact Iff.rfl
def aSel {α β : Type} (a : Option α) (b : Option β) (x : α → Prop) (y : β → Prop) (z : Prop) : Prop := match a with
 | some u => x u
 | none => match b with
  | some v => y v
  | none => z
@[congr] theorem aSel_congr {α β : Type} {a a' : Option α} {b b' : Option β} {x : α → Prop} {y : β → Prop} {z : Prop} (h : a = a') (h' : b = b') : aSel a b x y z = aSel a' b' x y z := by rw [h, h']
theorem aSel_a {α β : Type} {u : α} {b : Option β} {x : α → Prop} {y : β → Prop} {z : Prop} : aSel (some u) b x y z = x u := rfl
theorem aSel_b {α β : Type} {v : β} {x : α → Prop} {y : β → Prop} {z : Prop} : aSel none (some v) x y z = y v := rfl
theorem aSel_n {α β : Type} {x : α → Prop} {y : β → Prop} {z : Prop} : aSel none none x y z = z := rfl
theorem aOps_a3 {o o' o2 : Oper} {l : List Oper} : aOpsA P mu Z ops o (o' :: o2 :: l) K f m = aSel (fuse mu o o') (fuse3 mu o o' o2)
    (fun q => aFuse P q.1 q.2.1 q.2.2 f fun f' => aOps P mu Z ops (o2 :: l) K f' m)
    (fun q => aFuse P q.1.1 q.1.2.1 q.1.2.2 (F.put f (some q.2.2) (ev f q.2.1)) fun f' => aOps P mu Z ops l K f' m)
    (aOne P mu Z ops o f m fun f m => aOps P mu Z ops (o' :: o2 :: l) K f m) := by
 refine propext ?_
 unfold aOpsA
 rw [aOps.eq_def]
 simp only
 unfold aSel aOne
 cases hf : fuse mu o o' with
 | some q => obtain ⟨e, d, x⟩ := q; simp only
 | none =>
  cases hf3 : fuse3 mu o o' o2 with
  | some q => obtain ⟨⟨e, d, x⟩, ⟨y, d1⟩⟩ := q; simp only
  | none => cases hg : o.guard <;> simp only
theorem aOps_a2 {o o' : Oper} : aOpsA P mu Z ops o [o'] K f m = aSel (fuse mu o o') (none : Option Unit)
    (fun q => aFuse P q.1 q.2.1 q.2.2 f fun f' => K f' m) (fun _ => False)
    (aOne P mu Z ops o f m fun f m => aOps P mu Z ops [o'] K f m) := by
 refine propext ?_
 unfold aOpsA
 rw [aOps.eq_def]
 simp only
 unfold aSel aOne
 cases hf : fuse mu o o' with
 | some q => obtain ⟨e, d, x⟩ := q; exact Iff.rfl
 | none => cases hg : o.guard <;> simp only
theorem aOps_a1 {o : Oper} : aOpsA P mu Z ops o [] K f m = aOne P mu Z ops o f m K := by
 refine propext ?_
 unfold aOpsA
 rw [aOps.eq_def]
 unfold aOne
 cases hg : o.guard <;> simp only [hg]
theorem aOne_d {d : Option Tmp} {op : Op} {ty : TypeId} {pos : String} {af : Array Edge} {g : Option (Nat × Bool)} {Y : F → M → Prop} : aOne P mu Z ops ⟨d, op, ty, pos, af, g⟩ f m Y = aGo g ops f (lenFact op f → aOp P mu Z ⟨d, op, ty, pos, af, g⟩ f m fun v m' => Y (F.put f d v) m') (aOp P mu Z ⟨d, op, ty, pos, af, g⟩ f m fun v m' => Y (F.put f d v) m') (Y (F.put f d (.tp [])) m) := by
 unfold aOne aGo
 cases g <;> rfl
def aRun (P : Program) (Z : PV → M → Prop) (m : M) (r : AR) (K : PV → M → Prop) : Prop := match r with
 | .ok p v m' => p ∧ K v m'
 | .call g args => ACallsZ P g args m K Z
 | .pan v => Z v m
 | .alt p S => p ∧ ∀ v m', S v m' → K v m'
 | .bad => False
@[congr] theorem aRun_congr {r r' : AR} {K : PV → M → Prop} (h : r = r') : aRun P Z m r K = aRun P Z m r' K := by rw [h]
theorem aRun_ok (p : Prop) (v : PV) (m' : M) (K : PV → M → Prop) : aRun P Z m (.ok p v m') K = (p ∧ K v m') := rfl
theorem aRun_call (g : FuncId) (args : List PV) (K : PV → M → Prop) : aRun P Z m (.call g args) K = @ACallsI P g args m ⟨K, Z⟩ := rfl
theorem aRun_pan (v : PV) (K : PV → M → Prop) : aRun P Z m (.pan v) K = Z v m := rfl
theorem aRun_alt (p : Prop) (S K : PV → M → Prop) : aRun P Z m (.alt p S) K = (p ∧ ∀ v m', S v m' → K v m') := rfl
theorem aRun_bad (K : PV → M → Prop) : aRun P Z m .bad K = False := rfl
@[congr] theorem aOr_congr {o o' : Option AR} {r : AR} (h : o = o') : aOr o r = aOr o' r := by rw [h]
theorem aOr_some (x r : AR) : aOr (some x) r = x := rfl
theorem aOr_none (r : AR) : aOr none r = r := rfl
theorem aOp_d {d : Option Tmp} {op : Op} {ty : TypeId} {pos : String} {af : Array Edge} {g : Option (Nat × Bool)} {K : PV → M → Prop} : aOp P mu Z ⟨d, op, ty, pos, af, g⟩ f m K = aRun P Z m (aStep P (muOf mu ⟨d, op, ty, pos, af, g⟩) op f m) K := rfl
@[congr] theorem ACalls_congr {g : FuncId} {args args' : List PV} {m m' : M} {R Z : PV → M → Prop} (h : args = args') (hm : m = m') : ACallsZ P g args m R Z = ACallsZ P g args' m' R Z := by rw [h, hm]
def aFu (t : Option TD) (v : PV) (f : F) (d : Tmp) (K : F → Prop) : Prop := match t with
 | some t => (v.settle.ok = true ∧ v.settle.cells.length = t.sz) ∧ K (F.put f (some d) (.ep v.settle.cells))
 | none => False
@[congr] theorem aFu_congr {t t' : Option TD} {v v' : PV} {d : Tmp} {K : F → Prop} (h : t = t') (h' : v = v') : aFu t v f d K = aFu t' v' f d K := by rw [h, h']
theorem aFu_some {t : TD} {v : PV} {d : Tmp} {K : F → Prop} : aFu (some t) v f d K = ((v.settle.ok = true ∧ v.settle.cells.length = t.sz) ∧ K (F.put f (some d) (.ep v.settle.cells))) := rfl
theorem aFuse_d {e : TypeId} {d : Tmp} {x : Operand} {K : F → Prop} : aFuse P e d x f K = aFu (tdat P e) (ev f x) f d K := rfl
theorem aLexL_nil {S : M → Prop} : aLexL P mu ops S K [] f m = K f m := rfl
theorem aLexL_c {S : M → Prop} {d : Option Tmp} {op : Op} {ty : TypeId} {pos : String} {af : Array Edge} {g : Option (Nat × Bool)} {l : List Oper} : aLexL P mu ops S K (⟨d, op, ty, pos, af, g⟩ :: l) f m = aGo g ops f
    (aEQ (isEff mu ⟨d, op, ty, pos, af, g⟩) (aOp P mu noZ ⟨d, op, ty, pos, af, g⟩ f m fun v m' => S m' ∧ aLexL P mu ops S K l (F.put f d v) m') (aQv P mu ⟨d, op, ty, pos, af, g⟩ f m S fun v => aLexL P mu ops S K l (F.put f d v) m))
    (aEQ (isEff mu ⟨d, op, ty, pos, af, g⟩) (aOp P mu noZ ⟨d, op, ty, pos, af, g⟩ f m fun v m' => S m' ∧ aLexL P mu ops S K l (F.put f d v) m') (aQv P mu ⟨d, op, ty, pos, af, g⟩ f m S fun v => aLexL P mu ops S K l (F.put f d v) m))
    (aLexL P mu ops S K l (F.put f d (.tp [])) m) := by
 rw [aLexL.eq_def]
 simp only
 unfold aGo aEQ
 cases g <;> rfl
theorem aFlL_nil {S : M → Prop} {oa : Oper} {tl : List Oper} : aFlL P mu ops S K oa tl [] f m = aLexL P mu ops S K (oa :: tl) f m := rfl
theorem aFlL_c {S : M → Prop} {oa : Oper} {tl : List Oper} {d : Option Tmp} {op : Op} {ty : TypeId} {pos : String} {af : Array Edge} {g : Option (Nat × Bool)} {l : List Oper} : aFlL P mu ops S K oa tl (⟨d, op, ty, pos, af, g⟩ :: l) f m = (aEQ (isEff mu ⟨d, op, ty, pos, af, g⟩) (aLexL P mu ops S K (oa :: ⟨d, op, ty, pos, af, g⟩ :: (l ++ tl)) f m) True ∧ aGo g ops f
    (aEQ (isEff mu ⟨d, op, ty, pos, af, g⟩) (aOp P mu noZ ⟨d, op, ty, pos, af, g⟩ f m fun v m' => S m' ∧ aFlL P mu ops S K oa tl l (F.put f d v) m') (aQv P mu ⟨d, op, ty, pos, af, g⟩ f m S fun v => aFlL P mu ops S K oa tl l (F.put f d v) m))
    (aEQ (isEff mu ⟨d, op, ty, pos, af, g⟩) (aOp P mu noZ ⟨d, op, ty, pos, af, g⟩ f m fun v m' => S m' ∧ aFlL P mu ops S K oa tl l (F.put f d v) m') (aQv P mu ⟨d, op, ty, pos, af, g⟩ f m S fun v => aFlL P mu ops S K oa tl l (F.put f d v) m))
    (aFlL P mu ops S K oa tl l (F.put f d (.tp [])) m)) := by
 rw [aFlL.eq_def]
 simp only
 unfold aGo aEQ
 cases h : isEff mu ⟨d, op, ty, pos, af, g⟩ <;> cases g <;> simp
def aQR (r : AR) (g : M → AR) (S : M → Prop) (X : PV → Prop) : Prop := match r with
 | .ok p v _ => (∀ m2, S m2 → g m2 = .ok p v m2) ∧ p ∧ X v
 | _ => False
@[congr] theorem aQR_congr {r r' : AR} {g : M → AR} {S : M → Prop} {X : PV → Prop} (h : r = r') : aQR r g S X = aQR r' g S X := by rw [h]
theorem aQR_ok {p : Prop} {v : PV} {m' : M} {g : M → AR} {S : M → Prop} {X : PV → Prop} : aQR (.ok p v m') g S X = ((∀ m2, S m2 → g m2 = .ok p v m2) ∧ p ∧ X v) := rfl
theorem aQv_d {d : Option Tmp} {op : Op} {ty : TypeId} {pos : String} {af : Array Edge} {g : Option (Nat × Bool)} {S : M → Prop} {X : PV → Prop} : aQv P mu ⟨d, op, ty, pos, af, g⟩ f m S X = aQR (aStep P (muOf mu ⟨d, op, ty, pos, af, g⟩) op f m) (fun m2 => aStep P (muOf mu ⟨d, op, ty, pos, af, g⟩) op f m2) S X := by
 unfold aQv aQR
 cases aStep P (muOf mu ⟨d, op, ty, pos, af, g⟩) op f m <;> rfl
end
theorem aRes_n {P : Program} {f : F} {m : M} {K : List PV → Prop} : aRes P f m [] K = K [] := rfl
theorem aRes_t {P : Program} {f : F} {m : M} {t : Tmp} {r : List ResultVar} {K : List PV → Prop} : aRes P f m (.tmp t :: r) K = aRes P f m r fun vs => K (f t :: vs) := rfl
theorem rng1 : List.range 1 = [0] := rfl
theorem rng2 : List.range 2 = [0, 1] := rfl
theorem rng3 : List.range 3 = [0, 1, 2] := rfl
theorem rng4 : List.range 4 = [0, 1, 2, 3] := rfl
theorem rng5 : List.range 5 = [0, 1, 2, 3, 4] := rfl
theorem rng6 : List.range 6 = [0, 1, 2, 3, 4, 5] := rfl
def aRunO (r : AR) (K : PV → Prop) : Prop := match r with
 | .ok p v _ => p ∧ K v
 | _ => False
@[congr] theorem aRunO_congr {r r' : AR} {K : PV → Prop} (h : r = r') : aRunO r K = aRunO r' K := by rw [h]
theorem aRunO_ok {p : Prop} {v : PV} {m : M} {K : PV → Prop} : aRunO (.ok p v m) K = (p ∧ K v) := rfl
theorem aRes_c {P : Program} {f : F} {m : M} {a t : Nat} {r : List ResultVar} {K : List PV → Prop} : aRes P f m (.cell a t :: r) K = aRunO (aStep P false (.load t (.tmp a)) f m) fun v => aRes P f m r fun vs => K (v :: vs) := by
 unfold aRunO
 rw [aRes]
 cases aStep P false (.load t (.tmp a)) f m <;> rfl
theorem one_ag (l : List PV) : (PV.ag l).one = false := rfl
theorem one_tp (l : List PV) : (PV.tp l).one = false := rfl
theorem one_junk : PV.junk.one = false := rfl
theorem one_v (x : Value) : (PV.v x).one = true := rfl
theorem one_sl (o : Own) (l : List PV) : (PV.sl o l).one = true := rfl
theorem one_mp (i : Nat) : (PV.mp i).one = true := rfl
theorem one_bp (i o : Nat) : (PV.bp i o).one = true := rfl
theorem one_bs (i o l : Nat) : (PV.bs i o l).one = true := rfl
theorem one_gs (i o l : Nat) : (PV.gs i o l).one = true := rfl
theorem one_ep (l : List PV) : (PV.ep l).one = true := rfl
theorem one_fn (f : Fn) (a b : List PV) : (PV.fn f a b).one = true := rfl
theorem one_ifc (t : TypeId) (x : PV) : (PV.ifc t x).one = true := rfl
set_option maxRecDepth 4000
set_option linter.defProp false
def slp := And.intro @aGo_none (And.intro @aGo_some (And.intro @aEQ_t (And.intro @aEQ_f (And.intro @aOps_c (And.intro @aOps_a3 (And.intro @aOps_a2 (And.intro @aOps_a1 (And.intro @aOne_d (And.intro @aOp_d (And.intro @aFuse_d (And.intro @aQv_d (And.intro @aLexL_c @aFlL_c))))))))))))
def slb := And.intro @ne_b (And.intro @b_eq_t (And.intro @b_eq_f (And.intro @aGo_none (And.intro @aGo_some (And.intro @aOps_nil (And.intro @aOps_c (And.intro @aLexL_c (And.intro @aLexL_nil (And.intro @aFlL_nil (And.intro @notAlloc.eq_def (And.intro @aSel_a (And.intro @aSel_b (And.intro @aSel_n (And.intro @aRun_ok (And.intro @aRun_call (And.intro @aRun_bad (And.intro @aRun_pan (And.intro @aRun_alt (And.intro @aFu_some (And.intro @aEQ_t (And.intro @aEQ_f (And.intro @aQR_ok (And.intro @isEff.eq_def (And.intro @lenFact.eq_def (And.intro @fuse.eq_def (And.intro @fuse3.eq_def (And.intro @between.eq_def (And.intro @notTmp.eq_def (And.intro @aStep.eq_def (And.intro @aOr_some (And.intro @aOr_none (And.intro @aGrow.eq_def (And.intro @gBu.eq_def (And.intro @gIx.eq_def (And.intro @gNil.eq_def (And.intro @gSl.eq_def (And.intro @gMk.eq_def (And.intro @gApp.eq_def (And.intro @gAppN.eq_def (And.intro @gSrc.eq_def (And.intro @isSlT.eq_def (And.intro @aStep0.eq_def (And.intro @muOf.eq_def (And.intro @ev_tmp (And.intro @ev_const (And.intro @ev_func (And.intro @ofV_int (And.intro @ofV_bool (And.intro @ofV_string (And.intro @ofV_nil (And.intro @put_app (And.intro @put_none (And.intro @F.args.eq_def (And.intro @aBuiltin.eq_def (And.intro @aBin.eq_def (And.intro @aNil.eq_def (And.intro @isNilS.eq_def (And.intro @sliceT.eq_def (And.intro @eqNil.eq_def (And.intro @nilK.eq_def (And.intro @cstO.eq_def (And.intro @intAr.eq_def (And.intro @intCmp.eq_def (And.intro @needB.eq_def (And.intro @partA.eq_def (And.intro @seg.eq_def (And.intro @splice.eq_def (And.intro @elems.eq_def (And.intro @PV.isV.eq_def (And.intro @okSrc.eq_def (And.intro @own_no (And.intro @own_full (And.intro @own_tok (And.intro @use_no (And.intro @use_full (And.intro @use_tok (And.intro @loOf.eq_def (And.intro @hiOf.eq_def (And.intro @aInt.eq_def (And.intro @eltB.eq_def (And.intro @eqCell.eq_def (And.intro @skP.eq_def (And.intro @aflds.eq_1 (And.intro @aflds.eq_2 (And.intro @guardA.eq_def (And.intro @aGuard_t (And.intro @aGuard_f (And.intro @cells_ag (And.intro @cells_v (And.intro @cells_sl (And.intro @cells_bp (And.intro @cells_mp (And.intro @cells_bs (And.intro @cells_gs (And.intro @cells_ep (And.intro @cells_fn (And.intro @cells_ifc (And.intro @cells_tp (And.intro @Bool.false_eq_true (And.intro @Bool.and_true (And.intro @Bool.true_and (And.intro @Bool.or_false (And.intro @Bool.false_or (And.intro @Bool.or_true (And.intro @Bool.true_or (And.intro @Bool.not_false (And.intro @Bool.not_true (And.intro @Bool.and_self (And.intro @true_and (And.intro @and_true (And.intro @and_self (And.intro @not_true_eq_false (And.intro @not_false_eq_true (And.intro @Nat.lt_add_one (And.intro @Nat.zero_lt_succ (And.intro @Int.toNat_natCast (And.intro @numOf_v (And.intro @Int.natCast_nonneg (And.intro @true_implies (And.intro @false_implies (And.intro @decide_true (And.intro @decide_false (And.intro @aThen_n (And.intro @aThen_e (And.intro @aThen_r (And.intro @aBlock_n (And.intro @aBlock_r (And.intro @aBlock_e (And.intro @aCond_b (And.intro @push_ext (And.intro @ext_ext (And.intro @ext_nb (And.intro @ext_nt (And.intro @ext_fresh (And.intro @ext_kill (And.intro @aRunO_ok (And.intro @rng1 (And.intro @rng2 (And.intro @rng3 (And.intro @rng4 (And.intro @rng5 (And.intro @rng6 (And.intro @or_false (And.intro @aRes_n (And.intro @aRes_t (And.intro @aRes_c (And.intro @pack_one (And.intro @pack_two (And.intro @ext_alive (And.intro @ext_free (And.intro @ext_use (And.intro @use_nb (And.intro @fresh_nb (And.intro @kill_nb (And.intro @ext_get (And.intro @ext_get0 (And.intro @ext_upd (And.intro @ext_upd0 (And.intro @upd_nb (And.intro @upd_nt (And.intro @List.getElem?_toArray.{0} (And.intro @bytesOf.eq_1 (And.intro @bytesOf.eq_2 (And.intro @bytesOf.eq_3 (And.intro @eqCells.eq_1 (And.intro @eqCells.eq_2 (And.intro @eqCells.eq_3 (And.intro @fillA.eq_1 (And.intro @fillA.eq_2 (And.intro @fillOk.eq_1 (And.intro @fillOk.eq_2 (And.intro @one_ag (And.intro @one_tp (And.intro @one_junk (And.intro @one_v (And.intro @one_sl (And.intro @one_mp (And.intro @one_bp (And.intro @one_bs (And.intro @one_gs (And.intro @one_ep (And.intro @one_fn (And.intro @one_ifc (And.intro @PV.ok.eq_1 (And.intro @PV.pure.eq_1 (And.intro @PV.pure.eq_2 (And.intro @PV.pure.eq_3 (And.intro @PV.pure.eq_4 (And.intro @PV.pure.eq_5 (And.intro @PV.pure.eq_6 (And.intro @PV.pure.eq_7 (And.intro @PV.pure.eq_8 (And.intro @PV.pure.eq_9 (And.intro @PV.pure.eq_10 (And.intro @PV.pure.eq_11 (And.intro @PV.pure.eq_12 (And.intro @PV.pure.eq_13 (And.intro @PV.pures.eq_1 (And.intro @PV.pures.eq_2 (And.intro @PV.settle.eq_1 (And.intro @PV.settle.eq_2 (And.intro @PV.settle.eq_3 (And.intro @PV.settle.eq_4 (And.intro @PV.settle.eq_5 (And.intro @PV.settle.eq_6 (And.intro @PV.settle.eq_7 (And.intro @PV.settle.eq_8 (And.intro @PV.settle.eq_9 (And.intro @PV.settle.eq_10 (And.intro @PV.settle.eq_11 (And.intro @PV.settle.eq_12 (And.intro @PV.settle.eq_13 (And.intro @PV.settles.eq_1 (And.intro @PV.settles.eq_2 (And.intro @List.map_cons.{0, 0} (And.intro @List.map_nil.{0, 0} (And.intro @List.getElem?_cons_zero.{0} (And.intro @List.getElem?_cons_succ.{0} (And.intro @List.getElem?_nil.{0} (And.intro @List.getD_cons_zero.{0} (And.intro @List.getD_cons_succ.{0} (And.intro @List.drop_zero.{0} (And.intro @List.drop_succ_cons.{0} (And.intro @List.take_zero.{0} (And.intro @List.take_succ_cons.{0} (And.intro @List.take_nil.{0} (And.intro @List.drop_nil.{0} (And.intro @List.length_cons.{0} (And.intro @List.length_nil.{0} (And.intro @List.length_map.{0, 0} (And.intro @List.all_cons.{0} (And.intro @List.all_nil.{0} (And.intro @List.contains_nil.{0} (And.intro @List.contains_cons.{0} (And.intro @List.nil_append.{0} (And.intro @List.cons_append.{0} (And.intro @List.append_nil.{0} (And.intro @List.append_eq.{0} (And.intro @Option.map_some.{0, 0} (And.intro @Option.map_none.{0, 0} (And.intro @Option.bind_some.{0, 0} (And.intro @Option.some.injEq.{0} (And.intro @Option.isSome_some.{0} (And.intro @beq_self_eq_true.{0} (And.intro @bne_self_eq_false.{0} (And.intro @if_true.{1} (And.intro @if_false.{1} (And.intro @ne_eq.{1} (And.intro @forall_const.{1} (And.intro @implies_true.{1} (And.intro @implies_true.{0} (And.intro @List.mem_cons.{0} (And.intro @List.not_mem_nil.{0} (And.intro @forall_eq_or_imp.{1} (And.intro @forall_eq.{1} (And.intro @eq_self.{1} (And.intro @Option.join_some.{0} (And.intro @Option.join_none.{0} (And.intro @List.set_cons_zero.{0} (And.intro @List.set_cons_succ.{0} @List.set_nil.{0}))))))))))))))))))))))))))))))))))))))))))))))))))))))))))))))))))))))))))))))))))))))))))))))))))))))))))))))))))))))))))))))))))))))))))))))))))))))))))))))))))))))))))))))))))))))))))))))))))))))))))))))))))))))))))))))))))))))))))))))))))))))))))))))))))))
def slx := And.intro @aThen_n (And.intro @aThen_e (And.intro @aThen_r (And.intro @aBlock_n (And.intro @aBlock_r (And.intro @aBlock_e (And.intro @if_true.{1} (And.intro @if_false.{1} (And.intro @Nat.zero_ne_one @Nat.one_ne_zero))))))))
end Go.Proofs.YthhhnfjcaicjnaaGreatDoor
