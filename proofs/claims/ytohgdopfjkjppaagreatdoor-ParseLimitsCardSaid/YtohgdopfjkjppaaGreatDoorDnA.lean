/-
 Texts that belong together: AbDrwZ, AbDn.
-/
-- halved
import Derived.Test.YtohgdopfjkjppaaGreatDoorAbDrw
import Derived.Test.YtohgdopfjkjppaaGreatDoorRnA
set_option linter.unusedVariables false
set_option linter.unusedSimpArgs false
namespace Go.Proofs.YtohgdopfjkjppaaGreatDoor
open Go

section
variable {P : Program} {mu : List Nat} {ops : Array Oper} {S : M → Prop} {K : F → M → Prop}
theorem aOp_toZ {Z : PV → M → Prop} {o : Oper} {f : F} {m : M} {K : PV → M → Prop} (h : aOp P mu noZ o f m K) : aOp P mu Z o f m K := by
 unfold aOp at *
 cases hs : aStep P (muOf mu o) o.op f m with
 | ok p v m' => simp only [hs] at h ⊢; exact h
 | call g args => simp only [hs] at h ⊢; exact ACallsZ.mono h (fun _ _ h => h) (fun _ _ h => h.elim)
 | pan v => simp only [hs] at h ⊢; exact h.elim
 | alt p S => simp only [hs] at h ⊢; exact h
 | bad => simp [hs] at h
theorem aLexZ_of_L {Z : PV → M → Prop} {K1 : F → M → Prop} {r : List Nat} (hr : ∀ f m, K1 f m → aLexZ P mu Z ops S K r f m) : ∀ (l : List Oper) (k : Nat) {f : F} {m : M}, (∀ j, j < l.length → l[j]? = ops[k + j]?) → aLexL P mu ops S K1 l f m → aLexZ P mu Z ops S K (List.range' k l.length ++ r) f m
 | [], k, f, m, _, h => hr f m h
 | o :: l, k, f, m, hl, h => by
  have h0 : ops[k]? = some o := by simpa using (hl 0 (by simp)).symm
  have rest := fun {f : F} {m : M} (h : aLexL P mu ops S K1 l f m) => aLexZ_of_L hr l (k + 1) (f := f) (m := m) (fun j hj => by have := hl (j + 1) (by simpa using hj); simpa [Nat.add_assoc, Nat.add_comm 1 j] using this) h
  have body : (if isEff mu o then aOp P mu noZ o f m fun v m' => S m' ∧ aLexL P mu ops S K1 l (F.put f o.dst v) m' else aQv P mu o f m S fun v => aLexL P mu ops S K1 l (F.put f o.dst v) m) →
      (if isEff mu o then aOp P mu (zOf Z ops k) o f m fun v m' => S m' ∧ aLexZ P mu Z ops S K (List.range' (k + 1) l.length ++ r) (F.put f o.dst v) m' else ∃ v, aQuiet P mu o f S v ∧ aLexZ P mu Z ops S K (List.range' (k + 1) l.length ++ r) (F.put f o.dst v) m) := fun hx => by
   by_cases he : isEff mu o = true
   ·rw [if_pos he] at hx ⊢
    exact aOp_toZ (aOp_mono hx fun v m' ⟨a, b⟩ => ⟨a, rest b⟩)
   ·rw [if_neg he] at hx ⊢
    unfold aQv at hx
    split at hx
    ·rename_i p v m' hs
     obtain ⟨a, b, c⟩ := hx
     exact ⟨v, fun m2 hm2 => ⟨p, a m2 hm2, b⟩, rest c⟩
    ·exact hx.elim
  simp only [aLexL] at h
  simp only [List.length_cons, List.range'_succ, List.cons_append, aLexZ, h0, aG]
  cases hg : o.guard with
  | none => simp only [hg] at h ⊢; exact body h
  | some jw =>
   obtain ⟨j, want⟩ := jw
   simp only [hg] at h ⊢
   unfold aGuard at h ⊢
   split at h
   ·exact ⟨fun hb => body (h.1 hb), fun hb => rest (h.2 hb)⟩
   ·exact h.elim
theorem aDrwEZ {Z : PV → M → Prop} {K : Exit → F → M → Prop} {id : Nat} {l : List Oper} {f : F} {m : M} (k0 : Nat) (S : M → Prop) (hk : k0 + 1 < l.length) {hne : l ≠ []} (hgd : (l.getLast hne).guard = none) (hend : endOk l.toArray = true) (hg : (l[k0]'(by omega)).guard = none) (he : isEff mu (l[k0]'(by omega)) = true) (hb : behind l.toArray k0 = true) (hok : lexOk mu l.toArray = true) (hS : S m)
    (h : aLexL P mu l.toArray S (fun f m => aOp P mu Z (l[k0]'(by omega)) f m fun v m' => S m' ∧ aLexL P mu l.toArray S (fun f m => aOp P mu noZ (l.getLast hne) f m fun v m' => K .normal (F.put f (l.getLast hne).dst v) m') (l.dropLast.drop (k0 + 1)) (F.put f (l[k0]'(by omega)).dst v) m') (l.take k0) f m) : aCode P mu Z (.region id l.toArray true) K f m := by
 refine ⟨f, m, .inl ⟨rfl, rfl⟩, .inr (.inr (.inr (.inr (.inr (.inl ⟨hend, hok, S, hS, ?_⟩)))))⟩
 have hK : (fun f m => aOp P mu noZ (l.getLast hne) f m fun v m' => K .normal (F.put f (l.getLast hne).dst v) m') = aLast P mu l.toArray (K .normal) := by
  funext f m
  unfold aLast
  have : l.toArray[l.toArray.size - 1]? = some (l.getLast hne) := by
   rw [List.getElem?_toArray, List.size_toArray, ← List.getLast?_eq_getElem?, List.getLast?_eq_some_getLast hne]
  rw [this]
  simp only [hgd, true_and]
 rw [hK] at h
 have e : List.range (l.toArray.size - 1) = List.range' 0 (l.take k0).length ++ (k0 :: (List.range' (k0 + 1) (l.dropLast.drop (k0 + 1)).length ++ [])) := by
  rw [List.range_eq_range', List.append_nil, List.length_take, List.length_drop, List.length_dropLast, Nat.min_eq_left (by omega), List.size_toArray]
  obtain ⟨r, hr⟩ : ∃ r, l.length - 1 = k0 + (r + 1) := ⟨l.length - 1 - (k0 + 1), by omega⟩
  have hr2 : l.length - 1 - (k0 + 1) = r := by omega
  rw [hr2, hr, ← List.range'_append_1, List.range'_succ, Nat.zero_add]
 rw [e]
 refine aLexZ_of_L (fun f m h1 => ?_) (l.take k0) 0 (fun j hj => ?_) h
 ·have h0 : l.toArray[k0]? = some (l[k0]'(by omega)) := by simp [show k0 < l.length by omega]
  simp only [aLexZ, h0, aG, hg]
  rw [if_pos he]
  have hz : zOf Z l.toArray k0 = Z := by simp [zOf, hb]
  rw [hz]
  refine aOp_mono h1 fun v m' ⟨hs, h2⟩ => ⟨hs, ?_⟩
  refine aLexZ_of_L (fun f m h3 => h3) (l.dropLast.drop (k0 + 1)) (k0 + 1) (fun j hj => ?_) h2
  rw [List.length_drop, List.length_dropLast] at hj
  rw [List.getElem?_drop, List.getElem?_dropLast, List.getElem?_toArray, if_pos (by omega)]
 ·rw [List.length_take] at hj
  rw [List.getElem?_take_of_lt (by omega)]
  simp
theorem aLexL_mono {K' : F → M → Prop} (hk : ∀ f m, K f m → K' f m) : ∀ (l : List Oper) {f : F} {m : M}, aLexL P mu ops S K l f m → aLexL P mu ops S K' l f m
 | [], f, m, h => hk f m h
 | o :: l, f, m, h => by
  have rest := fun {f : F} {m : M} (h : aLexL P mu ops S K l f m) => aLexL_mono hk l (f := f) (m := m) h
  have body : (if isEff mu o then aOp P mu noZ o f m fun v m' => S m' ∧ aLexL P mu ops S K l (F.put f o.dst v) m' else aQv P mu o f m S fun v => aLexL P mu ops S K l (F.put f o.dst v) m) →
      (if isEff mu o then aOp P mu noZ o f m fun v m' => S m' ∧ aLexL P mu ops S K' l (F.put f o.dst v) m' else aQv P mu o f m S fun v => aLexL P mu ops S K' l (F.put f o.dst v) m) := fun hx => by
   by_cases he : isEff mu o = true
   ·rw [if_pos he] at hx ⊢
    exact aOp_mono hx fun v m' ⟨a, b⟩ => ⟨a, rest b⟩
   ·rw [if_neg he] at hx ⊢
    unfold aQv at hx ⊢
    split at hx
    ·rename_i hs
     obtain ⟨a, b, c⟩ := hx
     exact ⟨a, b, rest c⟩
    ·exact hx.elim
  simp only [aLexL] at h ⊢
  cases hg : o.guard with
  | none => simp only [hg] at h ⊢; exact body h
  | some jw =>
   obtain ⟨j, want⟩ := jw
   simp only [hg] at h ⊢
   unfold aGuard at h ⊢
   split at h
   ·exact ⟨fun hb => body (h.1 hb), fun hb => rest (h.2 hb)⟩
   ·exact h.elim
def aSeqO (P : Program) (mu : List Nat) (K : F → M → Prop) : List Oper → F → M → Prop
 | [], f, m => K f m
 | o :: r, f, m => o.guard = none ∧ aOp P mu noZ o f m fun v m' => aSeqO P mu K r (F.put f o.dst v) m'
theorem aAll_chain : ∀ (r : List Oper) (c : Nat) {f : F} {m : M}, (∀ j o, r[j]? = some o → ops[c + j]? = some o ∧ (0 < j → c + j - 1 ∈ edgesOf o)) → aSeqO P mu K r f m → aAll P mu ops K r.length (List.range' c r.length) f m
 | [], c, f, m, _, h => h
 | o :: r, c, f, m, hr, h => by
  rw [List.length_cons]
  intro i hi
  rw [List.mem_range'_1] at hi
  by_cases hic : i = c
  ·subst hic
   obtain ⟨h1, _⟩ := hr 0 o rfl
   rw [Nat.add_zero] at h1
   simp only [h1]
   refine .inr ⟨h.1, aOp_mono h.2 fun v m' h2 => ?_⟩
   have e : (List.range' i (r.length + 1)).filter (· != i) = List.range' (i + 1) r.length := by
    rw [List.range'_succ, List.filter_cons, if_neg (by simp), List.filter_eq_self]
    intro x hx
    rw [List.mem_range'_1] at hx
    simp; omega
   rw [e]
   exact aAll_chain r (i + 1) (fun j o2 hj => by
    obtain ⟨q1, q2⟩ := hr (j + 1) o2 (by simpa using hj)
    rw [show i + 1 + j = i + (j + 1) by omega]
    exact ⟨q1, fun _ => q2 (by omega)⟩) h2
  ·have hj : i - c < (o :: r).length := by simp; omega
   obtain ⟨h1, h2⟩ := hr (i - c) _ (List.getElem?_eq_getElem hj)
   rw [show c + (i - c) = i by omega] at h1 h2
   simp only [h1]
   exact .inl ⟨i - 1, h2 (by omega), by rw [List.mem_range'_1]; omega⟩
def chOk (ops : Array Oper) (c : Nat) : Bool := (List.range ops.size).all fun i => decide (i ≤ c) || (match ops[i]? with | none => false | some o => (edgesOf o).contains (i - 1))
theorem aDrwP {Z : PV → M → Prop} {K : Exit → F → M → Prop} {id : Nat} {l : List Oper} {f : F} {m : M} (c k0 : Nat) (S : M → Prop) (hk : k0 < c) (hcl : c ≤ l.length) (hok : lexOkC mu l.toArray c = true) (hp : okP mu l.toArray c k0 = true) (hS : S m)
    (h : aLexL P mu l.toArray S (fun f m => aOp P mu Z (l[k0]'(by omega)) f m fun v m' => S m' ∧ aAll P mu l.toArray (K .normal) (l.length - c) (List.range' c (l.length - c)) (F.put f (l[k0]'(by omega)).dst v) m') (l.take k0 ++ (l.drop (k0 + 1)).take (c - 1 - k0)) f m) : aCode P mu Z (.region id l.toArray true) K f m := by
 refine ⟨f, m, .inl ⟨rfl, rfl⟩, .inr (.inr (.inr (.inr (.inr (.inr ⟨c, k0, hok, hp, S, hS, ?_⟩)))))⟩
 have hat : ∀ j : Nat, l.toArray[j]? = l[j]? := fun j => List.getElem?_toArray
 have hKc : (fun f m => aOp P mu Z (l[k0]'(by omega)) f m fun v m' => S m' ∧ aAll P mu l.toArray (K .normal) (l.length - c) (List.range' c (l.length - c)) (F.put f (l[k0]'(by omega)).dst v) m') = aCallP P mu Z l.toArray S k0 (aAll P mu l.toArray (K .normal) (l.toArray.size - c) (List.range' c (l.toArray.size - c))) := by
  funext f m
  unfold aCallP
  rw [hat, List.getElem?_eq_getElem (by omega)]
  rfl
 rw [hKc] at h
 refine aLex_of_M _ (l.take k0 ++ (l.drop (k0 + 1)).take (c - 1 - k0)) ?_ h
 refine Mt.app ?_ ?_
 ·have := Mt.rng (ops := l.toArray) (l.take k0) 0 (fun j hj => by
    rw [Nat.zero_add, hat, List.getElem?_take_of_lt (by rw [List.length_take] at hj; omega)])
  rwa [List.length_take, Nat.min_eq_left (by omega)] at this
 ·have := Mt.rng (ops := l.toArray) ((l.drop (k0 + 1)).take (c - 1 - k0)) (k0 + 1) (fun j hj => by
    rw [List.length_take] at hj
    rw [hat, List.getElem?_take_of_lt (by omega), List.getElem?_drop])
  rwa [List.length_take, List.length_drop, Nat.min_eq_left (by omega)] at this
theorem aDrwPC {Z : PV → M → Prop} {K : Exit → F → M → Prop} {id : Nat} {l : List Oper} {f : F} {m : M} (c k0 : Nat) (S : M → Prop) (hk : k0 < c) (hcl : c ≤ l.length) (hok : lexOkC mu l.toArray c = true) (hp : okP mu l.toArray c k0 = true) (hch : chOk l.toArray c = true) (hS : S m)
    (h : aLexL P mu l.toArray S (fun f m => aOp P mu Z (l[k0]'(by omega)) f m fun v m' => S m' ∧ aSeqO P mu (K .normal) (l.drop c) (F.put f (l[k0]'(by omega)).dst v) m') (l.take k0 ++ (l.drop (k0 + 1)).take (c - 1 - k0)) f m) : aCode P mu Z (.region id l.toArray true) K f m := by
 refine aDrwP c k0 S hk hcl hok hp hS ?_
 have key : ∀ {f : F} {m : M}, aSeqO P mu (K .normal) (l.drop c) f m → aAll P mu l.toArray (K .normal) (l.length - c) (List.range' c (l.length - c)) f m := fun {f m} h1 => by
  have := aAll_chain (ops := l.toArray) (l.drop c) c (fun j o hj => ?_) h1
  ·rwa [List.length_drop] at this
  ·rw [List.getElem?_drop] at hj
   refine ⟨by rw [List.getElem?_toArray]; exact hj, fun hj0 => ?_⟩
   unfold chOk at hch
   have hlt := (List.getElem?_eq_some_iff.1 hj).1
   have := List.all_eq_true.1 hch (c + j) (by simpa using hlt)
   rw [List.getElem?_toArray, hj] at this
   simp only [Bool.or_eq_true, decide_eq_true_eq, List.contains_iff_mem] at this
   rcases this with h | h
   ·omega
   ·exact h
 have hKK : (fun (f : F) (m : M) => aOp P mu Z (l[k0]'(by omega)) f m fun v m' => S m' ∧ aSeqO P mu (K .normal) (l.drop c) (F.put f (l[k0]'(by omega)).dst v) m') = fun f m => aOp P mu Z (l[k0]'(by omega)) f m fun v m' => S m' ∧ aSeqO P mu (K .normal) (l.drop c) (F.put f (l[k0]'(by omega)).dst v) m' := rfl
 exact aLexL_mono (fun f m h1 => aOp_mono h1 fun v m' ⟨a, b⟩ => ⟨a, key b⟩) _ h
end

open Go Go.RowKit

def DAny (P : Program) (h : FuncId) (args : List PV) (m : M) (Q : M → Prop) : Prop := ∀ (G : Ghost) (w : World) (vs : List Value) (u : FrameMode), Inv G m w → args.length = vs.length → (∀ j (h1 : j < args.length) (h2 : j < vs.length), Rep G w args[j] vs[j]) →
 CallsD P h vs.toArray u w fun e u' w' => (∃ y, e = .returned y) ∧ u' = u ∧ ∃ m' G', Q m' ∧ Inv G' m' w' ∧ Ext G w G' w'
theorem DAny.of {P : Program} {mu : List Nat} {h : FuncId} {fn : Func} {c : Code} {args : List PV} {m : M} {Q : M → Prop} (hmix : P.follows .mixedOrders = true) (hf : P.funcs[h]? = some fn) (hb : fn.body = some c) (hrs : fn.results = #[])
    (hbd : Go.Code.bd (.of fn.ntmps) c = true) (hn : args.length ≤ fn.ntmps) (ha : aCode P mu noZ c (fun e f' m' => (e = .normal ∨ e = .ret) ∧ Q m') (F.args args) m) : DAny P h args m Q := by
 intro G w vs u hI hl hr
 have hS : St (.of fn.ntmps) [] G (F.args args) m { tmps := vs.toArray ++ Array.replicate (fn.ntmps - vs.toArray.size) undef, defers := [] } w :=
  ⟨enter_fr hl hr, hI, rfl, by simp [Fi.of]; omega, fun k hk => by simp [Fi.of] at hk⟩
 refine (callsD_of_wp (u := u) (R := fun e w' => (∃ y, e = .returned y) ∧ ∃ m' G', Q m' ∧ Inv G' m' w' ∧ Ext G w G' w') hf hb ?_).mono (fun e u' w' ⟨h1, h2, h3⟩ => ⟨h2, h1, h3⟩)
 refine wp_mono (aCode_sound hmix c ha hbd hS) fun e a w' hl => ?_
 rcases hl with ⟨G', f', m', ⟨he, hq⟩, hS', hE⟩ | ⟨y, v, m', G', rfl, hz, _⟩
 ·have hrr : (results fn a.tmps).run P w' = .ok (.tuple #[]) w' := by
    rw [results_run, hrs]
    simp
  have fin : a.defers = [] ∧ ∃ v, (results fn a.tmps).run P w' = .ok v w' ∧ ((∃ y, Ending.returned v = .returned y) ∧ ∃ m' G', Q m' ∧ Inv G' m' w' ∧ Ext G w G' w') := ⟨hS'.defers, _, hrr, ⟨_, rfl⟩, m', G', hq, hS'.inv, hE⟩
  rcases he with rfl | rfl <;> exact fin
 ·exact hz.elim
section
variable {P : Program} {mu : List Nat} {n : Fi} {h : FuncId} {dargs : List PV} {Z Zd : PV → M → Prop}
def dsB (h : FuncId) (dargs : List PV) (b : Bool) (G : Ghost) (w : World) (ds : List Deferred) : Prop := if b then ∃ vs : List Value, ds = [{ target := .fn (.func h) #[], args := vs.toArray }] ∧ dargs.length = vs.length ∧ (∀ j (h1 : j < dargs.length) (h2 : j < vs.length), Rep G w dargs[j] vs[j]) else ds = []
theorem dsB_mono {b : Bool} {G G' : Ghost} {w w' : World} {ds : List Deferred} (hd : dsB h dargs b G w ds) (hE : Ext G w G' w') : dsB h dargs b G' w' ds := by
 cases b with
 | false => exact hd
 | true =>
  obtain ⟨vs, h1, h2, h3⟩ := hd
  exact ⟨vs, h1, h2, fun j a b => (h3 j a b).mono hE⟩
def zOfB (Z Zd : PV → M → Prop) (b : Bool) : PV → M → Prop := if b then Zd else Z
def liftD (h : FuncId) (dargs : List PV) (K : Exit → Bool → F → M → Prop) (Z Zd : PV → M → Prop) (n : Fi) (G0 : Ghost) (w0 : World) : Exit → Act → World → Prop := fun e a w =>
 (∃ G f m b ds, K e b f m ∧ St n ds G f m a w ∧ dsB h dargs b G w ds ∧ Ext G0 w0 G w) ∨ (∃ y v m G b, e = .panic [{ v := y, recovered := false }] ∧ zOfB Z Zd b v m ∧ Rep G w v y ∧ Inv G m w ∧ Ext G0 w0 G w ∧ dsB h dargs b G w a.defers)
def WD (P : Program) (n : Fi) (h : FuncId) (dargs : List PV) (Z Zd : PV → M → Prop) (c : Code) (K : Exit → Bool → F → M → Prop) (b : Bool) (f : F) (m : M) : Prop :=
 ∀ (G : Ghost) (a : Act) (w : World) (G0 : Ghost) (w0 : World) (ds : List Deferred), St n ds G f m a w → dsB h dargs b G w ds → Ext G0 w0 G w → c.wp P (liftD h dargs K Z Zd n G0 w0) a w
theorem WD.plain (hmix : P.follows .mixedOrders = true) {c : Code} {K : Exit → Bool → F → M → Prop} {b : Bool} {f : F} {m : M} (hbd : Go.Code.bd n c = true) (hc : aCode P mu (zOfB Z Zd b) c (fun e f m => K e b f m) f m) : WD P n h dargs Z Zd c K b f m := by
 intro G a w G0 w0 ds hS hd hE
 refine wp_mono (aCode_sound hmix c hc hbd hS) fun e a1 w1 hl => ?_
 rcases hl with ⟨G1, f1, m1, h1, h2, h3⟩ | ⟨y, v, m1, G1, rfl, h2, h3, h4, h5, h6, _⟩
 ·exact .inl ⟨G1, f1, m1, b, ds, h1, h2, dsB_mono hd h3, hE.trans h3⟩
 ·exact .inr ⟨y, v, m1, G1, b, rfl, h2, h3, h4, hE.trans h5, by rw [h6]; exact dsB_mono hd h5⟩
def aThenD (X : Bool → F → M → Prop) (K : Exit → Bool → F → M → Prop) : Exit → Bool → F → M → Prop
 | .normal, b, f, m => X b f m
 | e, b, f, m => K e b f m
def aBlockD (id : Nat) (K : Exit → Bool → F → M → Prop) : Exit → Bool → F → M → Prop
 | .exit i, b, f, m => if i = id then K .normal b f m else K (.exit i) b f m
 | e, b, f, m => K e b f m
theorem WD.seq {x y : Code} {K : Exit → Bool → F → M → Prop} {b : Bool} {f : F} {m : M} (hx : WD P n h dargs Z Zd x (aThenD (WD P n h dargs Z Zd y K) K) b f m) : WD P n h dargs Z Zd (.seq x y) K b f m := by
 intro G a w G0 w0 ds hS hd hE
 refine wp_seq (wp_mono (hx G a w G0 w0 ds hS hd hE) fun e a' w' hl => ?_)
 rcases hl with ⟨G', f', m', b', ds', h1, h2, h3, h4⟩ | hp
 ·cases e with
  | normal => exact h1 G' a' w' G0 w0 ds' h2 h3 h4
  | _ => exact .inl ⟨G', f', m', b', ds', h1, h2, h3, h4⟩
 ·have hp' := hp
  obtain ⟨y', v, m1, G1, b1, rfl, _⟩ := hp
  exact .inr hp'
theorem WD.cond {c : Operand} {x y : Code} {K : Exit → Bool → F → M → Prop} {b : Bool} {f : F} {m : M} {t : Bool} (hc : ev f c = .v (.bool t)) (hx : t = true → WD P n h dargs Z Zd x K b f m) (hy : t = false → WD P n h dargs Z Zd y K b f m) : WD P n h dargs Z Zd (.cond c x y) K b f m := by
 intro G a w G0 w0 ds hS hd hE
 have hr := ev_rep hS.fr c
 rw [hc] at hr
 have he := hr.atomEq
 cases t
 ·exact wp_cond_false he (hy rfl G a w G0 w0 ds hS hd hE)
 ·exact wp_cond_true he (hx rfl G a w G0 w0 ds hS hd hE)
theorem WD.block {id : Nat} {c : Code} {K : Exit → Bool → F → M → Prop} {b : Bool} {f : F} {m : M} (hc : WD P n h dargs Z Zd c (aBlockD id K) b f m) : WD P n h dargs Z Zd (.block id c) K b f m := by
 intro G a w G0 w0 ds hS hd hE
 refine wp_block (wp_mono (hc G a w G0 w0 ds hS hd hE) fun e a' w' hl => ?_)
 rcases hl with ⟨G', f', m', b', ds', h1, h2, h3, h4⟩ | hp
 ·cases e with
  | exit i =>
   simp only [aBlockD] at h1
   simp only [Exit.inBlock]
   split at h1
   ·rename_i hi; rw [if_pos hi]; exact .inl ⟨G', f', m', b', ds', h1, h2, h3, h4⟩
   ·rename_i hi; rw [if_neg hi]; exact .inl ⟨G', f', m', b', ds', h1, h2, h3, h4⟩
  | _ => exact .inl ⟨G', f', m', b', ds', h1, h2, h3, h4⟩
 ·have hp' := hp
  obtain ⟨y', v, m1, G1, b1, rfl, _⟩ := hp
  exact .inr hp'
theorem WD.loop {c : Code} {K : Exit → Bool → F → M → Prop} {b : Bool} {f : F} {m : M} (I : F → M → Prop) (μ : F → M → Nat) (h0 : I f m)
    (hr : ∀ f m, I f m → WD P n h dargs Z Zd c (aThenD (fun b' f' m' => b' = b ∧ I f' m' ∧ μ f' m' < μ f m) K) b f m) : WD P n h dargs Z Zd (.loop c) K b f m := by
 intro G a w G0 w0 ds hS hd hE
 have key : ∀ (k : Nat) (f : F) (m : M), μ f m = k → I f m → ∀ (G1 : Ghost) (a : Act) (w1 : World) (ds : List Deferred), St n ds G1 f m a w1 → dsB h dargs b G1 w1 ds → Ext G0 w0 G1 w1 → ∀ (fr : Frame) (kk : List Item) (cs : List Frame),
     ∃ e a' w', liftD h dargs K Z Zd n G0 w0 e a' w' ∧ Arrives P (lone (fr.at a (.code c :: .inLoop c :: kk)) cs w1) fr kk cs e a' w' := by
  intro k
  induction k using Nat.strongRecOn with
  | _ k ihk =>
   intro f m hk hI G1 a w1 ds hS1 hd1 hE1 fr kk cs
   obtain ⟨e, a1, w1', hl, harr⟩ := hr f m hI G1 a w1 G0 w0 ds hS1 hd1 hE1 fr (.inLoop c :: kk) cs
   rcases hl with ⟨G2, f2, m2, b2, ds2, q1, q2, q3, q4⟩ | ⟨y', v, m2, G2, b2, rfl, q2, q3, q4, q5, q6⟩
   ·cases e with
    | normal =>
     obtain ⟨rfl, hI2, hlt⟩ := q1
     obtain ⟨e2, a2, w2, hq2, harr2⟩ := ihk (μ f2 m2) (hk ▸ hlt) f2 m2 rfl hI2 G2 a1 w1' ds2 q2 q3 q4 fr kk cs
     exact ⟨e2, a2, w2, hq2, .of_steps (Steps.trans harr (.one step_inLoop)) harr2⟩
    | exit id => exact ⟨_, a1, w1', .inl ⟨G2, f2, m2, b2, ds2, q1, q2, q3, q4⟩, .pass (x := .inLoop c) rfl (fun _ _ => .inl (by simp)) harr⟩
    | goto l => exact ⟨_, a1, w1', .inl ⟨G2, f2, m2, b2, ds2, q1, q2, q3, q4⟩, .pass (x := .inLoop c) rfl (fun _ _ => .inl (by simp)) harr⟩
    | ret => exact ⟨_, a1, w1', .inl ⟨G2, f2, m2, b2, ds2, q1, q2, q3, q4⟩, .pass (x := .inLoop c) rfl (fun _ _ => .inl (by simp)) harr⟩
    | panic ch => exact ⟨_, a1, w1', .inl ⟨G2, f2, m2, b2, ds2, q1, q2, q3, q4⟩, .pass (x := .inLoop c) rfl (fun _ _ => .inl (by simp)) harr⟩
    | outgrown => exact ⟨_, a1, w1', .inl ⟨G2, f2, m2, b2, ds2, q1, q2, q3, q4⟩, .pass (x := .inLoop c) rfl (fun _ _ => .inl (by simp)) harr⟩
   ·exact ⟨_, a1, w1', .inr ⟨y', v, m2, G2, b2, rfl, q2, q3, q4, q5, q6⟩, .pass (x := .inLoop c) rfl (fun _ _ => .inl (by simp)) harr⟩
 intro fr kk cs
 obtain ⟨e, a', w', hq, harr⟩ := key _ f m rfl h0 G a w ds hS hd hE fr kk cs
 exact ⟨e, a', w', hq, .of_steps (.one step_loop) harr⟩
theorem WD.defer {id : Nat} {df : Oper} {cs : Array Operand} {dc : Call} {K : Exit → Bool → F → M → Prop} {f : F} {m : M}
    (hdf : df.op = .defer dc ∧ dc.callee = .value (.func h) ∧ dc.args = cs ∧ df.dst = none ∧ df.guard = none) (hda : cs.toList.map (ev f) = dargs) (hK : K .normal true f m) : WD P n h dargs Z Zd (.region id #[df] false) K false f m := by
 intro G a w G0 w0 ds hS hd hE
 obtain ⟨hd1, hd2, hd3, hd4, hd5⟩ := hdf
 have hclo : ∃ cvs : List Value, (cs.toList.map (ev f)).length = cvs.length ∧ (∀ j (h1 : j < (cs.toList.map (ev f)).length) (h2 : j < cvs.length), Rep G w (cs.toList.map (ev f))[j] cvs[j]) ∧ (cs.map a.eval) = cvs.toArray := by
  obtain ⟨q1, q2⟩ := reps_of hS.fr cs.toList
  exact ⟨_, q1, q2, by apply Array.ext'; simp⟩
 obtain ⟨cvs, c1, c2, c3⟩ := hclo
 subst hda
 have hd0 : ds = [] := hd
 subst hd0
 let d : Deferred := { target := .fn (.func h) #[], args := cvs.toArray }
 have hevf : a.eval (.func h) = .func (.func h) #[] #[] := rfl
 have hdfr : (execOp a.eval df).run P w = .ok (.defer d) w := by
  simp [execOp, hd1, resolve, hd2, hd3, c3, hevf, Deferred.ofValue, d]
 refine wp_region_list ?_
 show wpList P #[df] _ [df] a w
 unfold wpList
 rw [if_pos (by simp [Region.wanted, hd5])]
 refine .inl ?_
 unfold Oper.wp
 rw [hdfr]
 simp only [Oper.upon]
 rw [hd4]
 show liftD h _ K Z Zd n G0 w0 .normal { a with defers := d :: a.defers } w
 refine .inl ⟨G, f, m, true, [d], hK, ⟨hS.fr, hS.inv, ?_, hS.size, hS.kept⟩, ⟨cvs, rfl, c1, c2⟩, hE⟩
 show d :: a.defers = [d]
 rw [hS.defers]
theorem WD.defer2 {id : Nat} {mv df : Oper} {x : Operand} {cs : Array Operand} {dc : Call} {K : Exit → Bool → F → M → Prop} {f : F} {m : M} (hmv : mv.op = .move x ∧ mv.guard = none) (hbv : dstB n mv = true)
    (hdf : df.op = .defer dc ∧ dc.callee = .value (.func h) ∧ dc.args = cs ∧ df.dst = none ∧ df.guard = none) (hda : cs.toList.map (ev (F.put f mv.dst (ev f x))) = dargs) (hK : K .normal true (F.put f mv.dst (ev f x)) m) : WD P n h dargs Z Zd (.region id #[mv, df] false) K false f m := by
 intro G a w G0 w0 ds hS hd hE
 obtain ⟨hd1, hd2, hd3, hd4, hd5⟩ := hdf
 have hd0 : ds = [] := hd
 subst hd0
 refine wp_region_list ?_
 show wpList P #[mv, df] _ [mv, df] a w
 refine aOps_step (mu := []) (Z := noZ) (X := fun f' m' => f' = F.put f mv.dst (ev f x) ∧ m' = m) hS hbv ?_ ?_ (fun y v m G' a' w' h1 => h1.elim)
 ·rw [hmv.2]
  intro _
  unfold aOp
  rw [hmv.1]
  exact ⟨trivial, rfl, rfl⟩
 rintro f' m' G' a' w' ⟨rfl, rfl⟩ hS' hE'
 have hclo : ∃ cvs : List Value, (cs.toList.map (ev (F.put f mv.dst (ev f x)))).length = cvs.length ∧ (∀ j (h1 : j < (cs.toList.map (ev (F.put f mv.dst (ev f x)))).length) (h2 : j < cvs.length), Rep G' w' (cs.toList.map (ev (F.put f mv.dst (ev f x))))[j] cvs[j]) ∧ (cs.map a'.eval) = cvs.toArray := by
  obtain ⟨q1, q2⟩ := reps_of hS'.fr cs.toList
  exact ⟨_, q1, q2, by apply Array.ext'; simp⟩
 obtain ⟨cvs, c1, c2, c3⟩ := hclo
 rw [hda] at c1 c2
 let d : Deferred := { target := .fn (.func h) #[], args := cvs.toArray }
 have hevf : a'.eval (.func h) = .func (.func h) #[] #[] := rfl
 have hdfr : (execOp a'.eval df).run P w' = .ok (.defer d) w' := by
  simp [execOp, hd1, resolve, hd2, hd3, c3, hevf, Deferred.ofValue, d]
 unfold wpList
 rw [if_pos (by simp [Region.wanted, hd5])]
 refine .inl ?_
 unfold Oper.wp
 rw [hdfr]
 simp only [Oper.upon]
 rw [hd4]
 show liftD h _ K Z Zd n G0 w0 .normal { a' with defers := d :: a'.defers } w'
 refine .inl ⟨G', _, m', true, [d], hK, ⟨hS'.fr, hS'.inv, ?_, hS'.size, hS'.kept⟩, ⟨cvs, rfl, c1, c2⟩, hE.trans hE'⟩
 show d :: a'.defers = [d]
 rw [hS'.defers]
theorem WD.sq (hmix : P.follows .mixedOrders = true) {x y : Code} {K : Exit → Bool → F → M → Prop} {b : Bool} {f : F} {m : M} (mu : List Nat) (hbd : Go.Code.bd n x = true) (hx : ∀ X : F → M → Prop, (∀ f m, WD P n h dargs Z Zd y K b f m → X f m) → aCode P mu (zOfB Z Zd b) x (aThen X (fun e f m => K e b f m)) f m) : WD P n h dargs Z Zd (.seq x y) K b f m := by
 refine WD.seq (WD.plain (mu := mu) hmix hbd ?_)
 have := hx (WD P n h dargs Z Zd y K b) (fun _ _ h => h)
 have e : (aThen (WD P n h dargs Z Zd y K b) fun e f m => K e b f m) = fun e f m => aThenD (WD P n h dargs Z Zd y K) K e b f m := by
  funext e f m
  cases e <;> rfl
 rwa [e] at this
theorem ACallsZ.enterWD {g : FuncId} {fn : Func} {c : Code} {args : List PV} {m : M} {R ZZ : PV → M → Prop} {Z1 : PV → M → Prop} {Q : M → M → Prop} (hmix : P.follows .mixedOrders = true) (hf : P.funcs[g]? = some fn) (hb : fn.body = some c) (hc : canCall P g = true) (hch : canCall P h = true) (hn : args.length ≤ fn.ntmps)
    (hD : ∀ m2 m3, Q m2 m3 → DAny P h dargs m2 (fun m' => m' = m3))
    (hX : WD P (.of fn.ntmps) h dargs (LeaveZ m ZZ) (fun v m2 => ∃ m3, Q m2 m3 ∧ LeaveZ m ZZ v m3) c (fun e b f2 m2 => (e = .normal ∨ e = .ret) ∧ if b then ∃ m3, Q m2 m3 ∧ aRes P f2 m3 fn.results.toList (fun vs => ∃ v' m'', Leave m m3 (pack vs) v' m'' ∧ R v' m'') else aRes P f2 m2 fn.results.toList (fun vs => ∃ v' m'', Leave m m2 (pack vs) v' m'' ∧ R v' m'')) false (F.args args) m) :
    ACallsZ P g args m R ZZ := by
 refine ⟨hc, fun G w vs hI hl hr => calls_of_wp_defers hf hb ?_⟩
 have hS : St (.of fn.ntmps) [] G (F.args args) m { tmps := vs.toArray ++ Array.replicate (fn.ntmps - vs.toArray.size) undef, defers := [] } w :=
  ⟨enter_fr hl hr, hI, rfl, by simp [Fi.of]; omega, fun k hk => by simp [Fi.of] at hk⟩
 have hinv : ∀ (vs : List Value) (w2 : World), (invoke (.fn (.func h) #[]) vs.toArray).run P w2 = .ok (.enter h vs.toArray) w2 := fun vs w2 => by
  simp only [invoke]
  rw [run_callFunc hch]
  simp
 refine wp_mono (hX G _ w G w [] hS rfl (Ext.refl _ _)) fun e a3 w3 hl3 => ?_
 rcases hl3 with ⟨G3, f3, m3, b, ds, ⟨he, hk⟩, hS3, hd3, hE3⟩ | ⟨y, v, m3, G3, b, rfl, hz, hrv, hI3, hE3, hd3⟩
 ·have hgo : Leaves P fn a3.tmps (fun e w' => (∃ y v m' G', e = .returned y ∧ R v m' ∧ Rep G' w' v y ∧ Inv G' m' w' ∧ Ext G w G' w') ∨ (∃ y v m' G', e = .panicked [{ v := y, recovered := false }] ∧ ZZ v m' ∧ Rep G' w' v y ∧ Inv G' m' w' ∧ Ext G w G' w')) a3.defers .returning w3 := by
    rw [hS3.defers]
    cases b with
    | false =>
     have hd0 : ds = [] := hd3
     subst hd0
     obtain ⟨y, hy1, v, m'', G'', q1, q2, q3, q4⟩ := res_fin hI hE3 hS3.inv hS3.fr hk
     exact ⟨y, hy1, .inl ⟨y, v, m'', G'', rfl, q1, q2, q3, q4⟩⟩
    | true =>
     obtain ⟨vs2, rfl, c1, c2⟩ := hd3
     obtain ⟨m4, hq, ha⟩ := hk
     refine leaves_cons (by simp) (hinv vs2 w3) ?_
     refine (hD m3 m4 hq G3 w3 vs2 _ hS3.inv c1 c2).mono ?_
     rintro e u' w4 ⟨⟨y0, rfl⟩, rfl, m5, G5, rfl, hI5, hE5⟩
     obtain ⟨y, hy1, v, m'', G'', q1, q2, q3, q4⟩ := res_fin hI (hE3.trans hE5) hI5 (hS3.fr.mono hE5) ha
     exact ⟨y, hy1, .inl ⟨y, v, m'', G'', rfl, q1, q2, q3, q4⟩⟩
  rcases he with rfl | rfl <;> exact hgo
 ·show Leaves P fn a3.tmps _ a3.defers _ w3
  cases b with
  | false =>
   have hd0 : a3.defers = [] := hd3
   rw [hd0]
   obtain ⟨v', m'', hlv, hZ⟩ := hz
   obtain ⟨G'', g1, g2, g3⟩ := hlv.sound hI hE3 hI3 hrv
   exact .inr ⟨y, v', m'', G'', rfl, hZ, g1, g2, g3⟩
  | true =>
   obtain ⟨vs2, hd0, c1, c2⟩ := hd3
   rw [hd0]
   obtain ⟨m4, hq, v', m'', hlv, hZ⟩ := hz
   refine leaves_cons (by simp) (hinv vs2 w3) ?_
   refine (hD m3 m4 hq G3 w3 vs2 _ hI3 c1 c2).mono ?_
   rintro e u' w4 ⟨⟨y0, rfl⟩, rfl, m5, G5, rfl, hI5, hE5⟩
   obtain ⟨G'', g1, g2, g3⟩ := hlv.sound hI (hE3.trans hE5) hI5 (hrv.mono hE5)
   exact .inr ⟨y, v', m'', G'', rfl, hZ, g1, g2, g3⟩
end
end Go.Proofs.YtohgdopfjkjppaaGreatDoor
