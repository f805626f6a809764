/-
 Code on values without addresses, and that what it shows holds of the model's runs.
-/
-- halved
import Derived.Test.YthhhnfjcaicjnaaGreatDoorAbGr
import Derived.Orders
import Derived.Tactics
set_option linter.unusedVariables false
set_option linter.unusedSimpArgs false
namespace Go.Proofs.YthhhnfjcaicjnaaGreatDoor
open Go Go.RowKit

def canCall (P : Program) (g : FuncId) : Bool := match P.funcs[g]? with
 | some fn => fn.body.isSome && fn.name != "runtime.NumGoroutine"
 | none => false

structure ACallsZ (P : Program) (g : FuncId) (args : List PV) (m : M) (R Z : PV → M → Prop) : Prop where
 cc : canCall P g = true
 run : ∀ (G : Ghost) (w : World) (vs : List Value), Inv G m w → args.length = vs.length → (∀ j (h1 : j < args.length) (h2 : j < vs.length), Rep G w args[j] vs[j]) →
  Calls P g vs.toArray w fun e w' => (∃ y v m' G', e = .returned y ∧ R v m' ∧ Rep G' w' v y ∧ Inv G' m' w' ∧ Ext G w G' w') ∨
   (∃ y v m' G', e = .panicked [{ v := y, recovered := false }] ∧ Z v m' ∧ Rep G' w' v y ∧ Inv G' m' w' ∧ Ext G w G' w')
def noZ : PV → M → Prop := fun _ _ => False
abbrev ACalls (P : Program) (g : FuncId) (args : List PV) (m : M) (R : PV → M → Prop) : Prop := ACallsZ P g args m R noZ

theorem ACallsZ.mono {P : Program} {g : FuncId} {args : List PV} {m : M} {R R' Z Z' : PV → M → Prop} (h : ACallsZ P g args m R Z) (hr : ∀ v m', R v m' → R' v m') (hz : ∀ v m', Z v m' → Z' v m') : ACallsZ P g args m R' Z' :=
 ⟨h.cc, fun G w vs a b c => (h.run G w vs a b c).mono fun e w' hh => by
  rcases hh with ⟨y, v, m', G', h1, h2, h3⟩ | ⟨y, v, m', G', h1, h2, h3⟩
  ·exact .inl ⟨y, v, m', G', h1, hr _ _ h2, h3⟩
  ·exact .inr ⟨y, v, m', G', h1, hz _ _ h2, h3⟩⟩
theorem ACalls.mono {P : Program} {g : FuncId} {args : List PV} {m : M} {R R' : PV → M → Prop} (h : ACalls P g args m R) (hr : ∀ v m', R v m' → R' v m') : ACalls P g args m R' := ACallsZ.mono h hr (fun _ _ h => h)

def muOf (mu : List Nat) (o : Oper) : Bool := match o.dst with | some d => mu.contains d | none => false
def aOp (P : Program) (mu : List Nat) (Z : PV → M → Prop) (o : Oper) (f : F) (m : M) (K : PV → M → Prop) : Prop :=
 match aStep P (muOf mu o) o.op f m with
 | .ok p v m' => p ∧ K v m'
 | .call g args => ACallsZ P g args m K Z
 | .pan v => Z v m
 | .alt p S => p ∧ ∀ v m', S v m' → K v m'
 | .bad => False

def guardA (ops : Array Oper) (f : F) (j : Nat) (want : Bool) : Option Bool :=
 match (ops[j]?).bind (·.dst) with
 | none => some false
 | some d => match f d with
  | .v (.bool b) => some (b == want)
  | .junk => none
  | _ => some false
def aGuard (c : Option Bool) (x y : Prop) : Prop := match c with
 | some b => (b = true → x) ∧ (b = false → y)
 | none => False
def notTmp (x : Operand) (d : Tmp) : Bool := match x with
 | .tmp t => t != d
 | _ => true
def lenFact (op : Op) (f : F) : Prop :=
 match op with
 | .call c => (match c.callee, c.args.toList with
  | .builtin .len, [x] => (match ev f x with
   | .sl _ xs => xs.length ≤ maxLen
   | _ => True)
  | _, _ => True)
 | _ => True
def fuse (mu : List Nat) (o o' : Oper) : Option (TypeId × Tmp × Operand) :=
 match o.op, o.dst, o.guard, o'.op, o'.dst, o'.guard with
 | .alloc e, some d, none, .store e' (.tmp d') x, none, none => if e == e' && d == d' && !mu.contains d && notTmp x d then some (e, d, x) else none
 | _, _, _, _, _, _ => none
def aFuse (P : Program) (e : TypeId) (d : Tmp) (x : Operand) (f : F) (K : F → Prop) : Prop :=
 match tdat P e with
 | some t => ((ev f x).settle.ok = true ∧ (ev f x).settle.cells.length = t.sz) ∧ K (F.put f (some d) (.ep (ev f x).settle.cells))
 | none => False
def between (o : Oper) (d : Tmp) : Option (Operand × Tmp) :=
 match o.op, o.dst, o.guard with
 | .assign y, some d1, none => if notTmp y d && d1 != d then some (y, d1) else none
 | .move y, some d1, none => if notTmp y d && d1 != d then some (y, d1) else none
 | _, _, _ => none
def fuse3 (mu : List Nat) (o o1 o2 : Oper) : Option ((TypeId × Tmp × Operand) × (Operand × Tmp)) :=
 match fuse mu o o2 with
 | some q => (between o1 q.2.1).map fun r => (q, r)
 | none => none
def aOps (P : Program) (mu : List Nat) (Z : PV → M → Prop) (ops : Array Oper) : List Oper → (F → M → Prop) → F → M → Prop
 | [], K, f, m => K f m
 | [o], K, f, m => (match o.guard with
  | none => lenFact o.op f → aOp P mu Z o f m fun v m' => K (F.put f o.dst v) m'
  | some (j, want) => aGuard (guardA ops f j want) (aOp P mu Z o f m fun v m' => K (F.put f o.dst v) m') (K (F.put f o.dst (.tp [])) m))
 | o :: o' :: rest, K, f, m => (match fuse mu o o' with
  | some (e, d, x) => aFuse P e d x f fun f' => aOps P mu Z ops rest K f' m
  | none => (match rest with
   | o2 :: rest2 => (match fuse3 mu o o' o2 with
    | some ((e, d, x), (y, d1)) => aFuse P e d x (F.put f (some d1) (ev f y)) fun f' => aOps P mu Z ops rest2 K f' m
    | none => (match o.guard with
     | none => lenFact o.op f → aOp P mu Z o f m fun v m' => aOps P mu Z ops (o' :: o2 :: rest2) K (F.put f o.dst v) m'
     | some (j, want) => aGuard (guardA ops f j want) (aOp P mu Z o f m fun v m' => aOps P mu Z ops (o' :: o2 :: rest2) K (F.put f o.dst v) m') (aOps P mu Z ops (o' :: o2 :: rest2) K (F.put f o.dst (.tp [])) m)))
   | [] => (match o.guard with
    | none => lenFact o.op f → aOp P mu Z o f m fun v m' => aOps P mu Z ops [o'] K (F.put f o.dst v) m'
    | some (j, want) => aGuard (guardA ops f j want) (aOp P mu Z o f m fun v m' => aOps P mu Z ops [o'] K (F.put f o.dst v) m') (aOps P mu Z ops [o'] K (F.put f o.dst (.tp [])) m))))

structure Fi where
 n : Nat
 keep : List Nat
 kv : Nat → Value
def Fi.of (n : Nat) : Fi := ⟨n, [], fun _ => undef⟩
theorem put_kept {a : Act} {d k : Nat} (h : d ≠ k) (y : Value) : (a.put (some d) y).tmps.getD k undef = a.tmps.getD k undef := by
 simp [Act.put, Array.getElem?_setIfInBounds_ne h]
structure St (n : Fi) (ds : List Deferred) (G : Ghost) (f : F) (m : M) (a : Act) (w : World) : Prop where
 fr : FR G w f a.tmps
 inv : Inv G m w
 defers : a.defers = ds
 size : a.tmps.size = n.n
 kept : ∀ k ∈ n.keep, a.tmps.getD k undef = n.kv k

theorem FR.mono {G G' : Ghost} {w w' : World} {f : F} {tmps : Array Value} (h : FR G w f tmps) (e : Ext G w G' w') : FR G' w' f tmps := fun t => (h t).mono e
theorem FR.put {G : Ghost} {w : World} {f : F} {a : Act} (h : FR G w f a.tmps) {d : Option Tmp} {v : PV} {y : Value} (hv : Rep G w v y) (hd : ∀ t, d = some t → t < a.tmps.size) : FR G w (F.put f d v) (a.put d y).tmps := by
 cases d with
 | none => exact h
 | some d =>
  intro t
  have hlt := hd d rfl
  simp only [F.put, Act.put]
  by_cases ht : t = d
  ·subst ht
   simp [hlt, hv]
  ·rw [if_neg ht]
   have := h t
   simpa [Array.getElem?_setIfInBounds_ne (Ne.symm ht)] using this

def dstB (n : Fi) (o : Oper) : Bool := match o.dst with | some d => decide (d < n.n) && !n.keep.contains d | none => true
theorem dstB_lt {n : Fi} {o : Oper} (hb : dstB n o = true) {d : Tmp} (h : o.dst = some d) : d < n.n ∧ ∀ k ∈ n.keep, d ≠ k := by
 simp only [dstB, h, Bool.and_eq_true, decide_eq_true_eq, Bool.not_eq_true', List.contains_eq_mem, decide_eq_false_iff_not] at hb
 exact ⟨hb.1, fun k hk he => hb.2 (he ▸ hk)⟩
theorem St.put {n : Fi} {ds : List Deferred} {G : Ghost} {f : F} {m m' : M} {a : Act} {w w' : World} {G' : Ghost} (h : St n ds G f m a w) {o : Oper} (hb : dstB n o = true) {v : PV} {y : Value} (hv : Rep G' w' v y) (hi : Inv G' m' w') (he : Ext G w G' w') : St n ds G' (F.put f o.dst v) m' (a.put o.dst y) w' := by
 refine ⟨(h.fr.mono he).put hv (fun t ht => ?_), hi, ?_, ?_, ?_⟩
 ·rw [h.size]; exact (dstB_lt hb ht).1
 ·cases o.dst <;> exact h.defers
 ·have := h.size
  cases o.dst <;> simp [Act.put, this]
 ·cases hd : o.dst with
  | none => exact h.kept
  | some d => exact fun k hk => by rw [put_kept ((dstB_lt hb hd).2 k hk)]; exact h.kept k hk

def lift (K : Exit → F → M → Prop) (Z : PV → M → Prop) (n : Fi) (ds : List Deferred) (G0 : Ghost) (w0 : World) : Exit → Act → World → Prop := fun e a w =>
 (∃ G f m, K e f m ∧ St n ds G f m a w ∧ Ext G0 w0 G w) ∨ (∃ y v m G, e = .panic [{ v := y, recovered := false }] ∧ Z v m ∧ Rep G w v y ∧ Inv G m w ∧ Ext G0 w0 G w ∧ a.defers = ds ∧ (∀ k ∈ n.keep, a.tmps.getD k undef = n.kv k))
def ZQ (Z : PV → M → Prop) (n : Fi) (ds : List Deferred) (G0 : Ghost) (w0 : World) (Q : Exit → Act → World → Prop) : Prop :=
 ∀ y v m G a w, Z v m → Rep G w v y → Inv G m w → Ext G0 w0 G w → a.defers = ds → (∀ k ∈ n.keep, a.tmps.getD k undef = n.kv k) → Q (.panic [{ v := y, recovered := false }]) a w
theorem ZQ.ext {Z : PV → M → Prop} {n : Fi} {ds : List Deferred} {G0 G : Ghost} {w0 w : World} {Q : Exit → Act → World → Prop} (h : ZQ Z n ds G0 w0 Q) (hE : Ext G0 w0 G w) : ZQ Z n ds G w Q :=
 fun y v m G' a w' h1 h2 h3 h4 h5 h6 => h y v m G' a w' h1 h2 h3 (hE.trans h4) h5 h6
theorem ZQ.no {n : Fi} {ds : List Deferred} {G0 : Ghost} {w0 : World} {Q : Exit → Act → World → Prop} : ZQ noZ n ds G0 w0 Q := fun _ _ _ _ _ _ h => h.elim
theorem ZQ.lift {K : Exit → F → M → Prop} {Z : PV → M → Prop} {n : Fi} {ds : List Deferred} {G0 : Ghost} {w0 : World} : ZQ Z n ds G0 w0 (lift K Z n ds G0 w0) :=
 fun y v m G a w h1 h2 h3 h4 h5 h6 => .inr ⟨y, v, m, G, rfl, h1, h2, h3, h4, h5, h6⟩

section
variable {P : Program} {mu : List Nat} {Z : PV → M → Prop} {n : Fi} {ds : List Deferred}

theorem run_callFunc {g : FuncId} (h : canCall P g = true) (vs : Array Value) (w : World) : (callFunc g vs).run P w = .ok (.enter g vs) w := by
 unfold canCall at h
 cases hf : P.funcs[g]? with
 | none => simp [hf] at h
 | some fn =>
  simp only [hf, Bool.and_eq_true, bne_iff_ne, ne_eq] at h
  obtain ⟨h1, h2⟩ := h
  have h3 : (fn.name == "runtime.NumGoroutine") = false := by simpa using h2
  have h4 : fn.body.isNone = false := by simpa using h1
  simp [callFunc, run_program, hf, h2, Option.isSome_iff_ne_none.1 h1]

theorem aOp_sound {o : Oper} {f : F} {m : M} {K : PV → M → Prop} (h : aOp P mu Z o f m K) {G : Ghost} {a : Act} {w : World} (hS : St n ds G f m a w) (hb : dstB n o = true) {K' : Act → World → Prop} {Q : Exit → Act → World → Prop}
    (hK : ∀ v m' G' y w', K v m' → St n ds G' (F.put f o.dst v) m' (a.put o.dst y) w' → Ext G w G' w' → K' (a.put o.dst y) w') (hZ : ZQ Z n ds G w Q) : o.wp P a w K' Q := by
 unfold aOp at h
 unfold Oper.wp
 cases hs : aStep P (muOf mu o) o.op f m with
 | ok p v m' =>
  simp only [hs] at h
  obtain ⟨x, y, w', G', h1, h2, h3, h4, h5⟩ := step_sound (o := o) hS.inv hS.fr hs h.1
  rw [h1]
  rcases h2 with rfl | ⟨rfl, rfl⟩
  ·exact hK v m' G' y w' h.2 (hS.put hb h3 h4 h5) h5
  ·exact hK v m' G' _ w' h.2 (hS.put hb h3 h4 h5) h5
 | call g args =>
  simp only [hs] at h
  obtain ⟨vs, h1, h2, h3⟩ := call_sound (o := o) (w := w) hS.inv hS.fr hs
  rw [h3, run_callFunc h.cc]
  exact (h.run G w vs hS.inv h1 h2).mono fun e w' hh => by
   rcases hh with ⟨y, v, m', G', e1, e2, e3, e4, e5⟩ | ⟨y, v, m', G', e1, e2, e3, e4, e5⟩
   ·subst e1
    exact hK v m' G' y w' e2 (hS.put hb e3 e4 e5) e5
   ·subst e1
    exact hZ y v m' G' a w' e2 e3 e4 e5 hS.defers hS.kept
 | pan v =>
  simp only [hs] at h
  obtain ⟨y, h1, h2⟩ := pan_sound (o := o) (w := w) hS.inv hS.fr hs
  rw [h2]
  exact hZ y v m G a w h h1 hS.inv (Ext.refl _ _) hS.defers hS.kept
 | alt p S =>
  simp only [hs] at h
  obtain ⟨v, m', hSv, x, y, w', G', h1, h2, h3, h4, h5⟩ := alt_sound (o := o) hS.inv hS.fr hs h.1
  rw [h1]
  rcases h2 with rfl | ⟨rfl, rfl⟩
  ·exact hK v m' G' y w' (h.2 _ _ hSv) (hS.put hb h3 h4 h5) h5
  ·exact hK v m' G' _ w' (h.2 _ _ hSv) (hS.put hb h3 h4 h5) h5
 | bad => simp [hs] at h
theorem aOp_sound0 {o : Oper} {f : F} {m : M} {K : PV → M → Prop} (h : aOp P mu noZ o f m K) {G : Ghost} {a : Act} {w : World} (hS : St n ds G f m a w) (hb : dstB n o = true) {K' : Act → World → Prop} {Q : Exit → Act → World → Prop}
    (hK : ∀ v m' G' y w', K v m' → St n ds G' (F.put f o.dst v) m' (a.put o.dst y) w' → Ext G w G' w' → K' (a.put o.dst y) w') : o.wp P a w K' Q := aOp_sound h hS hb hK ZQ.no

theorem guardA_spec {ops : Array Oper} {f : F} {G : Ghost} {w : World} {a : Act} (hF : FR G w f a.tmps) {o : Oper} {j : Nat} {want : Bool} (hg : o.guard = some (j, want)) {b : Bool} (h : guardA ops f j want = some b) : Region.wanted o (yielded ops a.tmps) = b := by
 simp only [Region.wanted, hg]
 unfold guardA at h
 unfold yielded
 cases hd : (ops[j]?).bind (·.dst) with
 | none =>
  simp only [hd, Option.some.injEq] at h
  subst h
  simp
 | some d =>
  simp only [hd] at h
  have hr := hF d
  have hgd : a.tmps.getD d undef = (a.tmps[d]?).getD undef := by simp
  rw [hgd] at hr
  simp only [Option.bind_some]
  cases ht : a.tmps[d]? with
  | none =>
   rw [ht] at hr
   simp only [Option.getD_none, undef] at hr
   cases hfd : f d with
   | junk => simp [hfd] at h
   | v x =>
    rw [hfd] at hr
    have := hr.atomEq
    subst this
    simp only [hfd, Option.some.injEq] at h
    subst h
    simp
   | _ => simp only [hfd, Option.some.injEq] at h; subst h; simp
  | some u =>
   rw [ht] at hr
   simp only [Option.getD_some] at hr
   cases hfd : f d with
   | junk => simp [hfd] at h
   | v x =>
    rw [hfd] at hr
    have := hr.atomEq
    subst this
    cases u <;> simp only [hfd, Option.some.injEq] at h <;> subst h <;> simp
   | _ =>
    simp only [hfd, Option.some.injEq] at h
    subst h
    rw [hfd] at hr
    cases hr <;> simp

theorem lenFact_holds {f : F} {G : Ghost} {w : World} {a : Act} (hF : FR G w f a.tmps) (op : Op) : lenFact op f := by
 unfold lenFact
 split
 ·split
  ·rename_i x _ _
   have hx := ev_rep hF x
   split
   ·rename_i xs he
    rw [he] at hx
    rcases sl_inv hx with ⟨_, rfl, _⟩ | ⟨_, _, _, _, _, _, _, _, _, _, h1, h2, _⟩
    ·exact Nat.zero_le _
    ·exact Nat.le_trans h1 h2
   ·trivial
  ·trivial
 ·trivial
theorem aOps_step {ops : Array Oper} {Q : Exit → Act → World → Prop} {o : Oper} {rest : List Oper} {X : F → M → Prop} {f : F} {m : M} {G : Ghost} {a : Act} {w : World} (hS : St n ds G f m a w) (hb : dstB n o = true)
    (h : match o.guard with
     | none => lenFact o.op f → aOp P mu Z o f m fun v m' => X (F.put f o.dst v) m'
     | some (j, want) => aGuard (guardA ops f j want) (aOp P mu Z o f m fun v m' => X (F.put f o.dst v) m') (X (F.put f o.dst (.tp [])) m))
    (go : ∀ {f' : F} {m' : M} {G' : Ghost} {a' : Act} {w' : World}, X f' m' → St n ds G' f' m' a' w' → Ext G w G' w' → wpList P ops Q rest a' w') (hZ : ZQ Z n ds G w Q) : wpList P ops Q (o :: rest) a w := by
 unfold wpList
 cases hg : o.guard with
 | none =>
  simp only [hg] at h
  rw [if_pos (by simp [Region.wanted, hg])]
  exact .inl (aOp_sound (h (lenFact_holds hS.fr _)) hS hb (fun v m' G' y w' k1 k2 k3 => go k1 k2 k3) hZ)
 | some jw =>
  obtain ⟨j, want⟩ := jw
  simp only [hg] at h
  cases hgu : guardA ops f j want with
  | none => simp [hgu, aGuard] at h
  | some b =>
   have hw := guardA_spec hS.fr hg hgu
   simp only [hgu, aGuard] at h
   cases b with
   | true =>
    rw [if_pos hw]
    exact .inl (aOp_sound (h.1 rfl) hS hb (fun v m' G' y w' k1 k2 k3 => go k1 k2 k3) hZ)
   | false =>
    rw [if_neg (by simp [hw])]
    exact go (h.2 rfl) (hS.put hb (.tp [] [] rfl (fun j h => by simp at h)) hS.inv (Ext.refl _ _)) (Ext.refl _ _)

theorem fuse_spec {o o' : Oper} {e : TypeId} {d : Tmp} {x : Operand} (h : fuse mu o o' = some (e, d, x)) : o.op = .alloc e ∧ o.dst = some d ∧ o.guard = none ∧ o'.op = .store e (.tmp d) x ∧ o'.dst = none ∧ o'.guard = none ∧ x ≠ .tmp d := by
 unfold fuse at h
 split at h
 ·rename_i e0 d0 e' d' x' h1 h2 h3 h4 h5 h6
  by_cases hc : (e0 == e' && d0 == d' && !mu.contains d0 && notTmp x' d0) = true
  ·rw [if_pos hc] at h
   simp only [Bool.and_eq_true, beq_iff_eq] at hc
   obtain ⟨⟨⟨rfl, rfl⟩, _⟩, hx⟩ := hc
   cases h
   refine ⟨h1, h2, h3, h4, h5, h6, fun he => ?_⟩
   subst he
   simp [notTmp] at hx
  ·rw [if_neg hc] at h; cases h
 ·cases h

theorem aFuse_sound {ops : Array Oper} {Q : Exit → Act → World → Prop} {o o' : Oper} {rest : List Oper} {X : F → Prop} {e : TypeId} {d : Tmp} {x : Operand} {f : F} {m : M} {G : Ghost} {a : Act} {w : World} (hS : St n ds G f m a w) (hb : dstB n o = true)
    (hfu : fuse mu o o' = some (e, d, x)) (h : aFuse P e d x f X)
    (go : ∀ {f' : F} {G' : Ghost} {a' : Act} {w' : World}, X f' → St n ds G' f' m a' w' → Ext G w G' w' → wpList P ops Q rest a' w') : wpList P ops Q (o :: o' :: rest) a w := by
 obtain ⟨h1, h2, h3, h4, h5, h6, hne⟩ := fuse_spec hfu
 unfold aFuse at h
 cases hd : tdat P e with
 | none => simp [hd] at h
 | some t =>
  simp only [hd] at h
  obtain ⟨⟨hok, hlen⟩, hX⟩ := h
  obtain ⟨ti, td, k1, k2, k3, k4, _, _, k5⟩ := info_of hd
  have hx := ev_rep hS.fr x
  have hxs := hx.settle
  have hone : (ev f x).settle.cells.all PV.one = true := by simp only [PV.ok, Bool.and_eq_true] at hok; exact hok.2
  have hrl := hxs.rl hone
  have hsz : (a.eval x).cells.size = ti.size := by have := hrl.len; simp at this; omega
  have hal : (execOp a.eval o).run P w = .ok (.value (.pointer (some ⟨w.heap.size, 0, none⟩))) (w.alloc (.cells t.zero.cells e)) := by
   simp only [execOp, h1, Instr.alloc, Sem.run_bind, run_zeroValue k1 k3, Result.andThen_ok]
   rfl
  let a1 : Act := a.put (some d) (.pointer (some ⟨w.heap.size, 0, none⟩))
  have hlt : d < a.tmps.size := by
   rw [hS.size]; exact (dstB_lt hb h2).1
  have hev1 : a1.eval (.tmp d) = .pointer (some ⟨w.heap.size, 0, none⟩) := by
   show a1.tmps.getD d undef = _
   simp [a1, Act.put, hlt]
  have hev2 : a1.eval x = a.eval x := Act.eval_put fun d' hd' => by cases hd'; exact hne
  have hg0 : (w.alloc (.cells t.zero.cells e)).heap[w.heap.size]? = some (.cells t.zero.cells e (0, 0)) := heap_alloc_new w _
  have hst := run_storeCells_at P w.heap.size 0 e (a.eval x).cells.toList 0 t.zero.cells (w.alloc (.cells t.zero.cells e)) hg0 (by simp; omega) hrl.one
  have hrow : ((t.zero.cells.toList.take (0 + 0) ++ (a.eval x).cells.toList ++ t.zero.cells.toList.drop (0 + 0 + (a.eval x).cells.toList.length)).toArray) = (a.eval x).cells := by
   apply Array.ext'
   simp
   omega
  rw [hrow] at hst
  have hw2 : (w.alloc (.cells t.zero.cells e)).setRow w.heap.size (a.eval x).cells = w.alloc (.cells (a.eval x).cells e) := by
   unfold World.setRow World.alloc
   congr 1
   apply Array.ext
   ·simp
   ·intro i q1 q2
    rw [Array.getElem_modify]
    by_cases hi : w.heap.size = i
    ·subst hi; simp
    ·simp only [hi, if_false]
     have : i < w.heap.size := by simp at q2; omega
     rw [Array.getElem_push_lt this, Array.getElem_push_lt this]
  rw [hw2] at hst
  have hse : (execOp a1.eval o').run P (w.alloc (.cells t.zero.cells e)) = .ok .skip (w.alloc (.cells (a.eval x).cells e)) := by
   simp only [execOp, h4, hev1, hev2, Sem.run_bind, Instr.storeAt, Instr.sureAddr, storeVar, Sem.run_pure, Result.andThen_ok, run_sizeOf k1, hsz, ne_eq, not_true_eq_false, if_false, hst]
  obtain ⟨G', e1, e2, e3⟩ := new_ep (e := e) hS.inv hxs hok (Pushed.alloc w (.cells (a.eval x).cells e))
  have hfin : St n ds G' (F.put f (some d) (.ep (ev f x).settle.cells)) m a1 (w.alloc (.cells (a.eval x).cells e)) := ⟨(hS.fr.mono e3).put e1 (fun t ht => by cases ht; exact hlt), e2, hS.defers, by simp [a1, Act.put, hS.size], fun k hk => by show (a.put (some d) _).tmps.getD k undef = _; rw [put_kept ((dstB_lt hb h2).2 k hk)]; exact hS.kept k hk⟩
  unfold wpList
  rw [if_pos (by simp [Region.wanted, h3])]
  refine .inl ?_
  unfold Oper.wp
  rw [hal]
  show wpList P ops Q (o' :: rest) (a.put o.dst _) _
  rw [h2]
  show wpList P ops Q (o' :: rest) a1 _
  unfold wpList
  rw [if_pos (by simp [Region.wanted, h6])]
  refine .inl ?_
  unfold Oper.wp
  rw [hse]
  show wpList P ops Q rest (a1.put o'.dst undef) _
  rw [h5]
  exact go hX hfin e3

theorem between_spec {o : Oper} {d d1 : Tmp} {y : Operand} (h : between o d = some (y, d1)) : (o.op = .assign y ∨ o.op = .move y) ∧ o.dst = some d1 ∧ o.guard = none ∧ y ≠ .tmp d ∧ d1 ≠ d := by
 unfold between at h
 have fin : ∀ (y' : Operand) (d1' : Tmp), (if notTmp y' d && d1' != d then some (y', d1') else none) = some (y, d1) → y' = y ∧ d1' = d1 ∧ y ≠ .tmp d ∧ d1 ≠ d := fun y' d1' hh => by
  split at hh
  ·rename_i hc
   simp only [Bool.and_eq_true, bne_iff_ne, ne_eq] at hc
   cases hh
   refine ⟨rfl, rfl, fun he => ?_, hc.2⟩
   subst he
   simp [notTmp] at hc
  ·cases hh
 split at h
 ·rename_i y' d1' h1 h2 h3
  obtain ⟨rfl, rfl, q1, q2⟩ := fin _ _ h
  exact ⟨.inl h1, h2, h3, q1, q2⟩
 ·rename_i y' d1' h1 h2 h3
  obtain ⟨rfl, rfl, q1, q2⟩ := fin _ _ h
  exact ⟨.inr h1, h2, h3, q1, q2⟩
 ·cases h

theorem aFuse3_sound {ops : Array Oper} {Q : Exit → Act → World → Prop} {o o1 o' : Oper} {rest : List Oper} {X : F → Prop} {e : TypeId} {d d1 : Tmp} {x y : Operand} {f : F} {m : M} {G : Ghost} {a : Act} {w : World} (hS : St n ds G f m a w) (hb : dstB n o = true) (hb1 : dstB n o1 = true)
    (hfu3 : fuse3 mu o o1 o' = some ((e, d, x), (y, d1))) (h : aFuse P e d x (F.put f (some d1) (ev f y)) X)
    (go : ∀ {f' : F} {G' : Ghost} {a' : Act} {w' : World}, X f' → St n ds G' f' m a' w' → Ext G w G' w' → wpList P ops Q rest a' w') : wpList P ops Q (o :: o1 :: o' :: rest) a w := by
 have hfu : fuse mu o o' = some (e, d, x) ∧ between o1 d = some (y, d1) := by
  unfold fuse3 at hfu3
  split at hfu3
  ·rename_i q hq
   cases hbt : between o1 q.2.1 with
   | none => simp [hbt] at hfu3
   | some r =>
    simp only [hbt, Option.map_some, Option.some.injEq, Prod.mk.injEq] at hfu3
    obtain ⟨rfl, rfl⟩ := hfu3
    exact ⟨hq, hbt⟩
  ·cases hfu3
 obtain ⟨hfu, hbt⟩ := hfu
 obtain ⟨h1, h2, h3, h4, h5, h6, hne⟩ := fuse_spec hfu
 obtain ⟨g1, g2, g3, g4, g5⟩ := between_spec hbt
 have hS1 : St n ds G (F.put f (some d1) (ev f y)) m (a.put (some d1) (a.eval y)) w := by
  have := hS.put (o := o1) hb1 (ev_rep hS.fr y) hS.inv (Ext.refl _ _)
  rwa [g2] at this
 unfold aFuse at h
 cases hd : tdat P e with
 | none => simp [hd] at h
 | some t =>
  simp only [hd] at h
  obtain ⟨⟨hok, hlen⟩, hX⟩ := h
  obtain ⟨ti, td, k1, k2, k3, k4, _, _, k5⟩ := info_of hd
  let a1 : Act := a.put (some d1) (a.eval y)
  have hx : Rep G w _ (a1.eval x) := ev_rep hS1.fr x
  have hxs := hx.settle
  have hone : (ev (F.put f (some d1) (ev f y)) x).settle.cells.all PV.one = true := by simp only [PV.ok, Bool.and_eq_true] at hok; exact hok.2
  have hrl := hxs.rl hone
  have hsz : (a1.eval x).cells.size = ti.size := by have := hrl.len; simp at this; omega
  have hal : (execOp a.eval o).run P w = .ok (.value (.pointer (some ⟨w.heap.size, 0, none⟩))) (w.alloc (.cells t.zero.cells e)) := by
   simp only [execOp, h1, Instr.alloc, Sem.run_bind, run_zeroValue k1 k3, Result.andThen_ok]
   rfl
  let p : Value := .pointer (some ⟨w.heap.size, 0, none⟩)
  let a2 : Act := (a.put (some d) p).put (some d1) (a.eval y)
  have hlt : d < a.tmps.size := by
   rw [hS.size]; exact (dstB_lt hb h2).1
  have hcomm : a2 = a1.put (some d) p := Act.put_comm a p (a.eval y) (fun d' hd' => by cases hd'; intro hc; cases hc; exact g5 rfl)
  have hev0 : (a.put (some d) p).eval y = a.eval y := Act.eval_put fun d' hd' => by cases hd'; exact g4
  have hlt1 : d < a1.tmps.size := by simp only [a1, Act.put, Array.size_setIfInBounds]; exact hlt
  have hev1 : a2.eval (.tmp d) = p := by
   rw [hcomm]
   show (a1.put (some d) p).tmps.getD d undef = _
   simp [Act.put, hlt1]
  have hev2 : a2.eval x = a1.eval x := by
   rw [hcomm]
   exact Act.eval_put fun d' hd' => by cases hd'; exact hne
  have hg0 : (w.alloc (.cells t.zero.cells e)).heap[w.heap.size]? = some (.cells t.zero.cells e (0, 0)) := heap_alloc_new w _
  have hst := run_storeCells_at P w.heap.size 0 e (a1.eval x).cells.toList 0 t.zero.cells (w.alloc (.cells t.zero.cells e)) hg0 (by simp; omega) hrl.one
  have hrow : ((t.zero.cells.toList.take (0 + 0) ++ (a1.eval x).cells.toList ++ t.zero.cells.toList.drop (0 + 0 + (a1.eval x).cells.toList.length)).toArray) = (a1.eval x).cells := by
   apply Array.ext'
   simp
   omega
  rw [hrow] at hst
  have hw2 : (w.alloc (.cells t.zero.cells e)).setRow w.heap.size (a1.eval x).cells = w.alloc (.cells (a1.eval x).cells e) := by
   unfold World.setRow World.alloc
   congr 1
   apply Array.ext
   ·simp
   ·intro i q1 q2
    rw [Array.getElem_modify]
    by_cases hi : w.heap.size = i
    ·subst hi; simp
    ·simp only [hi, if_false]
     have : i < w.heap.size := by simp at q2; omega
     rw [Array.getElem_push_lt this, Array.getElem_push_lt this]
  rw [hw2] at hst
  have hmv : (execOp (a.put (some d) p).eval o1).run P (w.alloc (.cells t.zero.cells e)) = .ok (.value (a.eval y)) (w.alloc (.cells t.zero.cells e)) := by
   rcases g1 with g1 | g1 <;> simp only [execOp, g1, hev0, Sem.run_pure]
  have hse : (execOp a2.eval o').run P (w.alloc (.cells t.zero.cells e)) = .ok .skip (w.alloc (.cells (a1.eval x).cells e)) := by
   simp only [execOp, h4, hev1, hev2, Sem.run_bind, Instr.storeAt, Instr.sureAddr, storeVar, Sem.run_pure, Result.andThen_ok, run_sizeOf k1, hsz, ne_eq, not_true_eq_false, if_false, hst, p]
  obtain ⟨G', e1, e2, e3⟩ := new_ep (e := e) hS1.inv hxs hok (Pushed.alloc w (.cells (a1.eval x).cells e))
  have hfin : St n ds G' (F.put (F.put f (some d1) (ev f y)) (some d) (.ep (ev (F.put f (some d1) (ev f y)) x).settle.cells)) m a2 (w.alloc (.cells (a1.eval x).cells e)) := by
   rw [hcomm]
   exact ⟨(hS1.fr.mono e3).put e1 (fun t ht => by cases ht; exact hlt1), e2, hS1.defers, by simp only [Act.put, Array.size_setIfInBounds]; exact hS1.size, fun k hk => by rw [put_kept ((dstB_lt hb h2).2 k hk)]; exact hS1.kept k hk⟩
  unfold wpList
  rw [if_pos (by simp [Region.wanted, h3])]
  refine .inl ?_
  unfold Oper.wp
  rw [hal]
  show wpList P ops Q (o1 :: o' :: rest) (a.put o.dst _) _
  rw [h2]
  unfold wpList
  rw [if_pos (by simp [Region.wanted, g3])]
  refine .inl ?_
  unfold Oper.wp
  rw [hmv]
  show wpList P ops Q (o' :: rest) ((a.put (some d) p).put o1.dst _) _
  rw [g2]
  show wpList P ops Q (o' :: rest) a2 _
  unfold wpList
  rw [if_pos (by simp [Region.wanted, h6])]
  refine .inl ?_
  unfold Oper.wp
  rw [hse]
  show wpList P ops Q rest (a2.put o'.dst undef) _
  rw [h5]
  exact go hX hfin e3

theorem aOps_sound {ops : Array Oper} {Q : Exit → Act → World → Prop} {K : F → M → Prop} : ∀ (l : List Oper) {f : F} {m : M} {G : Ghost} {a : Act} {w : World}, aOps P mu Z ops l K f m → l.all (dstB n) = true → St n ds G f m a w →
    (∀ f' m' G' a' w', K f' m' → St n ds G' f' m' a' w' → Ext G w G' w' → Q .normal a' w') → ZQ Z n ds G w Q → wpList P ops Q l a w
 | [], f, m, G, a, w, h, _, hS, hK, hZ => hK f m G a w h hS (Ext.refl _ _)
 | [o], f, m, G, a, w, h, hb, hS, hK, hZ => by
  simp only [List.all_cons, Bool.and_eq_true] at hb
  simp only [aOps] at h
  exact aOps_step (X := K) hS hb.1 h (fun k1 k2 k3 => hK _ _ _ _ _ k1 k2 k3) hZ
 | [o, o'], f, m, G, a, w, h, hb, hS, hK, hZ => by
  simp only [List.all_cons, Bool.and_eq_true] at hb
  rw [aOps.eq_def] at h
  simp only at h
  cases hfu : fuse mu o o' with
  | some q =>
   obtain ⟨e, d, x⟩ := q
   simp only [hfu] at h
   exact aFuse_sound (X := fun f' => aOps P mu Z ops [] K f' m) hS hb.1 hfu h (fun k1 k2 k3 => aOps_sound [] k1 hb.2.2 k2 (fun f'' m'' G'' a'' w'' q1 q2 q3 => hK f'' m'' G'' a'' w'' q1 q2 (k3.trans q3)) (hZ.ext k3))
  | none =>
   simp only [hfu] at h
   exact aOps_step (X := fun f' m' => aOps P mu Z ops [o'] K f' m') hS hb.1 h (fun k1 k2 k3 => aOps_sound [o'] k1 (by simp [hb.2]) k2 (fun f'' m'' G'' a'' w'' q1 q2 q3 => hK f'' m'' G'' a'' w'' q1 q2 (k3.trans q3)) (hZ.ext k3)) hZ
 | o :: o' :: o2 :: rest2, f, m, G, a, w, h, hb, hS, hK, hZ => by
  simp only [List.all_cons, Bool.and_eq_true] at hb
  rw [aOps.eq_def] at h
  simp only at h
  cases hfu : fuse mu o o' with
  | some q =>
   obtain ⟨e, d, x⟩ := q
   simp only [hfu] at h
   exact aFuse_sound (X := fun f' => aOps P mu Z ops (o2 :: rest2) K f' m) hS hb.1 hfu h (fun k1 k2 k3 => aOps_sound (o2 :: rest2) k1 (by simp [hb.2]) k2 (fun f'' m'' G'' a'' w'' q1 q2 q3 => hK f'' m'' G'' a'' w'' q1 q2 (k3.trans q3)) (hZ.ext k3))
  | none =>
   simp only [hfu] at h
   cases hf3 : fuse3 mu o o' o2 with
   | some q =>
    obtain ⟨⟨e, d, x⟩, ⟨y, d1⟩⟩ := q
    simp only [hf3] at h
    exact aFuse3_sound (X := fun f' => aOps P mu Z ops rest2 K f' m) hS hb.1 hb.2.1 hf3 h (fun k1 k2 k3 => aOps_sound rest2 k1 hb.2.2.2 k2 (fun f'' m'' G'' a'' w'' q1 q2 q3 => hK f'' m'' G'' a'' w'' q1 q2 (k3.trans q3)) (hZ.ext k3))
   | none =>
    simp only [hf3] at h
    exact aOps_step (X := fun f' m' => aOps P mu Z ops (o' :: o2 :: rest2) K f' m') hS hb.1 h (fun k1 k2 k3 => aOps_sound (o' :: o2 :: rest2) k1 (by simp [hb.2]) k2 (fun f'' m'' G'' a'' w'' q1 q2 q3 => hK f'' m'' G'' a'' w'' q1 q2 (k3.trans q3)) (hZ.ext k3)) hZ
end
end Go.Proofs.YthhhnfjcaicjnaaGreatDoor
