/-
 The type of an expression, told plainly: a type, or the place of the first fault.
-/
-- halved
import Derived.Test.YthhhnfjcaicjnaaGreatDoorNvA
import Derived.Test.YthhhnfjcaicjnaaGreatDoorNW
set_option linter.unusedVariables false
set_option linter.unusedSimpArgs false
namespace Go.Proofs.YthhhnfjcaicjnaaGreatDoor
open Go

inductive TR where
 | ok (t : Ty)
 | bad (l c : Int)
def nmFalse : Str := ⟨#[102, 97, 108, 115, 101]⟩
def nmTrue : Str := ⟨#[116, 114, 117, 101]⟩
def tyZ : Ty := ⟨0, ⟨#[]⟩⟩
def enZ : En := ⟨⟨#[]⟩, [], 0, 0⟩
def vaZ : Va := ⟨⟨#[]⟩, tyZ, [], false, .mk 0 0 0 ⟨#[]⟩ [] [] 0 0, 0, 0⟩
def findEn (l : List En) (s : Str) : Int := idxF (fun e => eqS e.name s) l 0
def ctorEn (l : List En) (s : Str) : Int := idxF (fun e => hasS e.ctors s) l 0
def ctorsF (E : List En) (t : Ty) : List Str :=
 if t.kind == 1 then [nmFalse, nmTrue] else if t.kind == 3 then (if decide (findEn E t.name ≥ 0) then (E.getD (findEn E t.name).toNat enZ).ctors else []) else []
def opIn (o : Int) : Int := if o = 1 ∨ o = 8 ∨ o = 9 ∨ o = 10 then 1 else if o = 2 ∨ (3 ≤ o ∧ o ≤ 7) ∨ (13 ≤ o ∧ o ≤ 16) then 2 else 0
def opOut (o : Int) : Int := if o = 1 ∨ o = 8 ∨ o = 9 ∨ o = 10 ∨ (11 ≤ o ∧ o ≤ 16) then 1 else if o = 2 ∨ (3 ≤ o ∧ o ≤ 7) then 2 else 0
theorem idxF_lt {α : Type} {p : α → Bool} (l : List α) : idxF p l 0 < (l.length : Int) := by
 rcases idxF_at (p := p) l 0 with ⟨h, _⟩ | ⟨k, h, h1, _⟩ <;> omega
mutual
def stF : Ex → Bool
 | .mk k _ _ _ _ ks _ _ => !(k == 9 || k == 10 || k == 11) && stsF ks
def stsF : List Ex → Bool
 | [] => true
 | e :: r => stF e && stsF r
end
def tyOf (V : List Va) (s : Str) : Ty := (V.getD (findVar V s).toNat vaZ).t
def opOk (i : Int) (u : Ty) : List Ty → Bool
 | [] => true
 | t :: r => (i == 0 || t.kind == i) && Ty.eq t u && opOk i u r
def mgOk (all : List Str) (u : Ty) : List Str → List Str → List Ty → Bool
 | _, [], _ => true
 | seen, c :: r, ts => hasS all c && !hasS seen c && Ty.eq (ts.headD tyZ) u && mgOk all u (seen ++ [c]) r ts.tail
def finF (E : List En) (V : List Va) (k o : Int) (nm : Str) (ns : List Str) (ks : List Ex) (ln cl : Int) (ts : List Ty) : TR :=
 let t0 := ts.getD 0 tyZ
 if (k == 4 || k == 5 || k == 12 || k == 13) && decide (findVar V nm < 0) then .bad ln cl
 else if k == 1 then .ok ⟨2, ⟨#[]⟩⟩
 else if k == 2 then .ok ⟨1, ⟨#[]⟩⟩
 else if k == 3 then .ok ⟨3, (E.getD (ctorEn E nm).toNat enZ).name⟩
 else if k == 4 || k == 5 then .ok (tyOf V nm)
 else if k == 6 || k == 7 then (if opOk (opIn o) t0 ts then .ok ⟨opOut o, ⟨#[]⟩⟩ else .bad ln cl)
 else if k == 8 then (if t0.kind == 1 && Ty.eq (ts.getD 1 tyZ) (ts.getD 2 tyZ) then .ok (ts.getD 1 tyZ) else .bad ln cl)
 else if k == 9 || k == 11 then (if Ty.eq t0 (ts.getD 1 tyZ) then .ok t0 else .bad ln cl)
 else if k == 12 then (if hasS (ctorsF E (tyOf V nm)) (ns.getD 0 ⟨#[]⟩) && stsF (ks.take 1) then .ok t0 else .bad ln cl)
 else if k == 13 then (if mgOk (ctorsF E (tyOf V nm)) t0 [] ns ts && ns.length == (ctorsF E (tyOf V nm)).length then .ok t0 else .bad ln cl)
 else .ok t0
mutual
def tyF (E : List En) (V : List Va) : Ex → TR
 | .mk k o n nm ns ks ln cl => match tysF E V ks with
  | .inr p => .bad p.1 p.2
  | .inl ts => finF E V k o nm ns ks ln cl ts
def tysF (E : List En) (V : List Va) : List Ex → List Ty ⊕ (Int × Int)
 | [] => .inl []
 | e :: r => match tyF E V e with
  | .bad l c => .inr (l, c)
  | .ok t => match tysF E V r with
   | .inl ts => .inl (t :: ts)
   | .inr p => .inr p
end
theorem tyF_eq (E : List En) (V : List Va) (e : Ex) : tyF E V e = match tysF E V e.kids with
    | .inr p => .bad p.1 p.2
    | .inl ts => finF E V e.kind e.op e.name e.names e.kids e.line e.col ts := by
 cases e with
 | mk => rw [tyF]; rfl
def preT (ts : List Ty) : List Ty ⊕ (Int × Int) → List Ty ⊕ (Int × Int)
 | .inl r => .inl (ts ++ r)
 | .inr p => .inr p
theorem tysF_drop (E : List En) (V : List Va) {l : List Ex} {k : Nat} (h : k < l.length) (ts : List Ty) :
    preT ts (tysF E V (l.drop k)) = match tyF E V l[k] with
     | .bad a b => .inr (a, b)
     | .ok t => preT (ts ++ [t]) (tysF E V (l.drop (k + 1))) := by
 rw [List.drop_eq_getElem_cons h, tysF]
 cases tyF E V l[k] with
 | bad a b => rfl
 | ok t =>
  simp only []
  cases tysF E V (l.drop (k + 1)) with
  | inl r => simp [preT]
  | inr p => rfl
def arK (E : List En) (k o : Int) (nm : Str) (n : Nat) (m : Nat) : Prop :=
 (1 ≤ k ∧ k ≤ 13) ∧ (k = 3 → 0 ≤ ctorEn E nm) ∧ (k = 6 → m = 1) ∧ (k = 7 → m = 2) ∧ (k = 8 → m = 3) ∧ (k = 9 ∨ k = 11 → m = 2) ∧ (k = 10 → m = 1) ∧ (k = 12 → m = 1 ∧ 1 ≤ n) ∧ (k = 13 → m = n ∧ 1 ≤ n) ∧ (k = 6 ∨ k = 7 → 1 ≤ o ∧ o ≤ 16) ∧ (n ≤ 1000 ∧ m ≤ 1000)
mutual
def Ex.ar (E : List En) : Ex → Prop
 | .mk k o _ nm ns ks _ _ => arK E k o nm ns.length ks.length ∧ Ex.ars E ks
def Ex.ars (E : List En) : List Ex → Prop
 | [] => True
 | e :: r => e.ar E ∧ Ex.ars E r
end
theorem Ex.ars_mem {E : List En} : ∀ {l : List Ex}, Ex.ars E l → ∀ e ∈ l, e.ar E
 | [], _, e, he => by cases he
 | a :: l, h, e, he => by
  rw [Ex.ars] at h
  rcases List.mem_cons.1 he with rfl | he
  ·exact h.1
  ·exact Ex.ars_mem h.2 e he
theorem Ex.ar_x {E : List En} {e : Ex} (h : e.ar E) : arK E e.kind e.op e.name e.names.length e.kids.length ∧ Ex.ars E e.kids := by
 cases e with
 | mk => rw [Ex.ar] at h; exact h
end Go.Proofs.YthhhnfjcaicjnaaGreatDoor
