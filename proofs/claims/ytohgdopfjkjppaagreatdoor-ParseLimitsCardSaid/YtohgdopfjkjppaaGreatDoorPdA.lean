/-
 Texts that belong together: TpN, PsD, PsC, PsE, PsF, PsG.
-/
-- halved
import Derived.Test.YtohgdopfjkjppaaGreatDoorExA
import Derived.Test.YtohgdopfjkjppaaGreatDoorAbMac
import Derived.Test.YtohgdopfjkjppaaGreatDoorAbKit
import Derived.Test.YtohgdopfjkjppaaGreatDoorAbT
namespace Go.Proofs.YtohgdopfjkjppaaGreatDoor
open Go
structure En where
 name : Str
 ctors : List Str
 line : Int
 col : Int
def En.cs (e : En) : List PV := [.v (.string e.name), .sl .no (e.ctors.map pS), .v (.int .i64 e.line), .v (.int .i64 e.col)]
def En.pv (e : En) : PV := .ag e.cs
theorem En.cells_pv (e : En) : e.pv.cells = e.cs := rfl
theorem En.settle_pv (e : En) : e.pv.settle = e.pv := rfl
theorem En.pure_pv (e : En) : e.pv.pure = true := rfl

set_option linter.unusedSectionVars false
set_option linter.unusedVariables false
set_option linter.unusedSimpArgs false

structure Tk where
 kind : Int
 text : Str
 n : Int
 line : Int
 col : Int
def Tk.cs (t : Tk) : List PV := [.v (.int .u8 t.kind), .v (.string t.text), .v (.int .i32 t.n), .v (.int .i64 t.line), .v (.int .i64 t.col)]
def Tk.pv (t : Tk) : PV := .ag t.cs
theorem Tk.cells_pv (t : Tk) : t.pv.cells = t.cs := rfl
theorem Tk.settle_pv (t : Tk) : t.pv.settle = t.pv := rfl
theorem Tk.pure_pv (t : Tk) : t.pv.pure = true := rfl
def tk0 : Tk := ⟨0, ⟨#[]⟩, 0, 0, 0⟩
structure PS where
 i : Nat
 k : Int
 l : Int
 c : Int
structure TksOk (L : List Tk) : Prop where
 pos : 0 < L.length
 le : L.length ≤ 70000
 next : ∀ i (h : i < L.length), L[i].kind ≠ 0 → i + 1 < L.length
 kinds : ∀ t ∈ L, 0 ≤ t.kind ∧ t.kind ≤ 5
 num : ∀ t ∈ L, t.kind = 1 → t.text ≠ ⟨#[]⟩
 rng : ∀ t ∈ L, -2147483648 ≤ t.n ∧ t.n ≤ 2147483647
section
variable (L : List Tk)
def tkA (i : Nat) : Tk := L.getD i tk0
def PS.tk (s : PS) : Tk := tkA L s.i
def PS.fail (s : PS) (k l c : Int) : PS := if s.k = 0 then ⟨L.length - 1, k, l, c⟩ else ⟨L.length - 1, s.k, s.l, s.c⟩
def PS.here (s : PS) (k : Int) : PS := s.fail L k (s.tk L).line (s.tk L).col
def PS.nx (s : PS) : PS := ⟨s.i + 1, s.k, s.l, s.c⟩
def PS.is (s : PS) (w : Str) : Bool := s.k == 0 && decide (4 ≤ (s.tk L).kind) && eqS (s.tk L).text w
def PS.skp (s : PS) (w : Str) : PS := if s.is L w then s.nx else s
def PS.want (s : PS) (w : Str) : PS := if s.is L w then s.nx else s.here L 2
def rName (kd : Int) (s : PS) : Str × PS := if s.k == 0 && (s.tk L).kind == kd then ((s.tk L).text, s.nx) else (⟨#[]⟩, s.here L 2)
def wTrue : Str := ⟨#[116, 114, 117, 101]⟩
def wFalse : Str := ⟨#[102, 97, 108, 115, 101]⟩
def wOpen : Str := ⟨#[40]⟩
def wShut : Str := ⟨#[41]⟩
def wWhen : Str := ⟨#[119, 104, 101, 110]⟩
def wEq : Str := ⟨#[61]⟩
def wSemi : Str := ⟨#[59]⟩
def wComma : Str := ⟨#[44]⟩
def wColon : Str := ⟨#[58]⟩
def wBar : Str := ⟨#[124]⟩
def wArrow : Str := ⟨#[45, 62]⟩
def wMinus : Str := ⟨#[45]⟩
def wFby : Str := ⟨#[102, 98, 121]⟩
def wIf : Str := ⟨#[105, 102]⟩
def wThen : Str := ⟨#[116, 104, 101, 110]⟩
def wElse : Str := ⟨#[101, 108, 115, 101]⟩
def wNot : Str := ⟨#[110, 111, 116]⟩
def wPre : Str := ⟨#[112, 114, 101]⟩
def wLast : Str := ⟨#[108, 97, 115, 116]⟩
def wMerge : Str := ⟨#[109, 101, 114, 103, 101]⟩
def wBool : Str := ⟨#[98, 111, 111, 108]⟩
def wInt : Str := ⟨#[105, 110, 116]⟩
def wVar : Str := ⟨#[118, 97, 114]⟩
def wDo : Str := ⟨#[100, 111]⟩
def wEnd : Str := ⟨#[101, 110, 100]⟩
def wEvery : Str := ⟨#[101, 118, 101, 114, 121]⟩
def wSwitch : Str := ⟨#[115, 119, 105, 116, 99, 104]⟩
def wAuto : Str := ⟨#[97, 117, 116, 111, 109, 97, 116, 111, 110]⟩
def wReset : Str := ⟨#[114, 101, 115, 101, 116]⟩
def wCont : Str := ⟨#[99, 111, 110, 116, 105, 110, 117, 101]⟩
def wUnless : Str := ⟨#[117, 110, 108, 101, 115, 115]⟩
def wUntil : Str := ⟨#[117, 110, 116, 105, 108]⟩
def wType : Str := ⟨#[116, 121, 112, 101]⟩
def wNode : Str := ⟨#[110, 111, 100, 101]⟩
def wReturns : Str := ⟨#[114, 101, 116, 117, 114, 110, 115]⟩
def wLet : Str := ⟨#[108, 101, 116]⟩
def wTel : Str := ⟨#[116, 101, 108]⟩
def rCtor (s : PS) : Str × PS := if s.is L wTrue then (wTrue, s.nx) else if s.is L wFalse then (wFalse, s.nx) else rName L 3 s
def rOn (s : PS) : On × PS :=
 let a := rCtor L s
 let b := rName L 2 (a.2.want L wOpen)
 (⟨a.1, b.1⟩, b.2.want L wShut)
def rOpen (d : Int) (s : PS) : PS := if d + 1 > 64 then s.here L 3 else s
def opWord (o : Int) : Str :=
 if o = 3 then ⟨#[43]⟩ else if o = 4 then ⟨#[45]⟩ else if o = 5 then ⟨#[42]⟩ else if o = 6 then ⟨#[47]⟩ else if o = 7 then ⟨#[109, 111, 100]⟩ else if o = 8 then ⟨#[97, 110, 100]⟩ else if o = 9 then ⟨#[111, 114]⟩ else if o = 10 then ⟨#[120, 111, 114]⟩ else if o = 11 then ⟨#[61]⟩ else if o = 12 then ⟨#[60, 62]⟩ else if o = 13 then ⟨#[60]⟩ else if o = 14 then ⟨#[60, 61]⟩ else if o = 15 then ⟨#[62]⟩ else ⟨#[62, 61]⟩
def rOpF : Nat → Int → PS → Int
 | 0, _, _ => 0
 | f + 1, o, s => if s.is L (opWord o) then o else rOpF f (o + 1) s
def rOp (s : PS) : Int := rOpF L 14 3 s
def opStr (o : Int) : Int := if o = 9 ∨ o = 10 then 1 else if o = 8 then 2 else if 11 ≤ o ∧ o ≤ 16 then 3 else if o = 3 ∨ o = 4 then 4 else if 5 ≤ o ∧ o ≤ 7 then 5 else 0
def isCst (e : Ex) : Bool := e.kind == 1 || e.kind == 2 || e.kind == 3
def z0 : Ex := .mk 0 0 0 ⟨#[]⟩ [] [] 0 0
def atE (t : Tk) : Ex := .mk 0 0 0 ⟨#[]⟩ [] [] t.line t.col
def rWhen : Nat → Ex → PS → Ex × PS
 | 0, e, s => (e, s)
 | f + 1, e, s => if s.is L wWhen then
     let o := rOn L s.nx
     rWhen f (.mk 12 0 0 o.1.var [o.1.ctor] [e] e.line e.col) o.2
   else (e, s)
def w32 (n : Int) : Int := IntKind.i32.wrap n
end

open Nat renaming reduceEqDiff → jA, reduceAdd → jB, reduceMul → jC, reduceLT → jD, reduceLeDiff → jE, reduceBEq → jF, reduceBNe → jG
open Int renaming reduceLE → jH, reduceLT → jI, reduceToNat → jJ, reduceEq → jK
set_option maxRecDepth 20000
set_option linter.defProp false
def tfPsC := And.intro @tfA (And.intro @Ex.settle_pv (And.intro @Ex.pure_pv (And.intro @Ex.cells_pv (And.intro @Ex.cs.eq_1 (And.intro @On.pv.eq_1 (And.intro @Ty.pv.eq_1 (And.intro @Va.settle_pv (And.intro @Va.pure_pv (And.intro @Va.cells_pv @Va.cs.eq_1)))))))))

abbrev w64 (n : Int) : Int := IntKind.i64.wrap n
mutual
def Ex.szW : Ex → Int
 | .mk _ _ _ _ _ kids _ _ => Ex.szWs kids 1
def Ex.szWs : List Ex → Int → Int
 | [], n => n
 | k :: l, n => Ex.szWs l (w64 (n + k.szW))
end
def mxI (n k : Int) : Int := if k > n then k else n
mutual
def Ex.dpW : Ex → Int
 | .mk _ _ _ _ _ kids _ _ => w64 (Ex.dpWs kids 0 + 1)
def Ex.dpWs : List Ex → Int → Int
 | [], n => n
 | k :: l, n => Ex.dpWs l (mxI n k.dpW)
end
theorem Ex.dpW_eq (e : Ex) : e.dpW = w64 (Ex.dpWs e.kids 0 + 1) := by cases e; rfl
theorem dpWs_take : ∀ (l : List Ex) (k : Nat) (h : k < l.length) (n : Int), Ex.dpWs (l.take (k + 1)) n = mxI (Ex.dpWs (l.take k) n) l[k].dpW
 | [], k, h, n => by simp at h
 | a :: l, 0, h, n => by simp [Ex.dpWs]
 | a :: l, k + 1, h, n => by
  simp only [List.take_succ_cons, Ex.dpWs, List.getElem_cons_succ]
  exact dpWs_take l k (by simpa using h) _

set_option maxHeartbeats 1000000 in
theorem depthW_any (e : Ex) : ∀ (m : M), ACalls Tryz.prog 35 [e.pv] m (fun v m' => v = pI e.dpW ∧ m' = m) := by
 refine Ex.ind (motive := fun e => ∀ (m : M), ACalls Tryz.prog 35 [e.pv] m (fun v m' => v = pI e.dpW ∧ m' = m)) (fun e IH => ?_) e
 intro m
 refine eN [] Tryz.func35 ?_
 (repeat (first | refine aSeq fun X hX => ?_ | refine aBlk ?_ | refine aReg ?_; simp -implicitDefEqProofs only [↓slp, slb, ↓reduceIte, reduceCtorEq, jA, jB, jE, tfPsC]; try simp only [fo] | apply hX; clear hX X | intro hlen; unfold maxLen at hlen))
 obtain ⟨I, hI⟩ : ∃ I : F → M → Prop, ∀ f m', I f m' = (∃ (k : Nat), k ≤ e.kids.length ∧ f 3 = pI (Ex.dpWs (e.kids.take k) 0) ∧ f 7 = .sl .no (e.kids.map Ex.pv) ∧ f 8 = pI e.kids.length ∧ f 9 = pI k ∧ m = m') := ⟨_, fun _ _ => rfl⟩
 refine aLoop I (fun f m => e.kids.length - numOf (f 9)) ?_ ?_
 ·rw [hI]; exact ⟨0, by omega, rfl, rfl, rfl, rfl, rfl⟩
 intro f m' hrel
 rw [hI] at hrel
 obtain ⟨k, hk, h3, h7, h8, h9, rfl⟩ := hrel
 (repeat (first | refine aSeq fun X hX => ?_ | refine aReg ?_; simp -implicitDefEqProofs only [↓slp, slb, ↓reduceIte, h8, h9, pI] | apply hX; clear hX X))
 refine aIf ?_; simp -implicitDefEqProofs only [slb, ↓reduceIte]; refine ⟨fun hb => ?_, fun hb => ?_⟩
 ·have hlt : k < e.kids.length := by simpa using hb
  have g0 := getD_map Ex.pv e.kids k hlt
  have hi : IntKind.i64.wrap ((k : Int) + 1) = ((k + 1 : Nat) : Int) := by rw [wrap64 (by omega)]; omega
  (repeat (first | refine aSeq fun X hX => ?_ | refine aSkip ?_ | refine aReg ?_; simp -implicitDefEqProofs only [↓slp, slb, ↓reduceIte, jA, jB, jE, jF, tfPsC, h3, h7, h9, pI, g0]; try simp only [fo] | apply hX; clear hX X | apply And.intro; focus omega))
  refine callE (IH k hlt _) ?_
  refine wS (And.intro tfPsC (And.intro h9 @pI.eq_1)) ?_
  (repeat (first | refine aReg ?_; simp -implicitDefEqProofs only [↓slp, slb, ↓reduceIte, jA, tfPsC, h9, pI, hi]; try simp only [fo] | apply hX; clear hX X))
  rw [hI]
  refine ⟨⟨k + 1, hlt, by rw [dpWs_take _ _ hlt]; rfl, h7, h8, rfl, rfl⟩, ?_⟩
  first | omega | (simp only [↓slp, slb, ↓reduceIte, reduceCtorEq, jA, jB, jC, jD, jE, jF, jG, jH, jI, jJ, jK, h9, pI]; omega)
 ·have hlt : k = e.kids.length := by simp at hb; omega
  subst hlt
  (repeat revert X); refine wW (And.intro h3 @pI.eq_1) ?_; repeat intro X hX
  refine wR Tryz.results35 ?_
  refine leave_same rfl ⟨?_, rfl⟩
  rw [e.dpW_eq, List.take_length]; rfl

set_option maxHeartbeats 1000000 in
theorem rDepthW_any (e : Ex) : ∀ (m : M), ACalls Tryz.prog 45 [e.pv] m (fun v m' => v = pI e.dpW ∧ m' = m) := by
 refine Ex.ind (motive := fun e => ∀ (m : M), ACalls Tryz.prog 45 [e.pv] m (fun v m' => v = pI e.dpW ∧ m' = m)) (fun e IH => ?_) e
 intro m
 refine eN [] Tryz.func45 ?_
 (repeat revert X); refine wW tfPsC ?_; repeat intro X hX
 obtain ⟨I, hI⟩ : ∃ I : F → M → Prop, ∀ f m', I f m' = (∃ (k : Nat), k ≤ e.kids.length ∧ f 1 = .ep e.cs ∧ f 3 = pI (Ex.dpWs (e.kids.take k) 0) ∧ f 4 = pI k ∧ m = m') := ⟨_, fun _ _ => rfl⟩
 refine aLoop I (fun f m => e.kids.length - numOf (f 4)) ?_ ?_
 ·rw [hI]; exact ⟨0, by omega, rfl, rfl, rfl, rfl⟩
 intro f m' hrel
 rw [hI] at hrel
 obtain ⟨k, hk, h1, h3, h4, rfl⟩ := hrel
 (repeat (first | refine aSeq fun X hX => ?_ | refine aReg ?_; simp -implicitDefEqProofs only [↓slp, slb, ↓reduceIte, reduceCtorEq, jA, jB, jE, tfPsC, h1, h4, pI] | apply hX; clear hX X | intro hlen; unfold maxLen at hlen))
 refine aIf ?_; simp -implicitDefEqProofs only [slb, ↓reduceIte]; refine ⟨fun hb => ?_, fun hb => ?_⟩
 ·have hlt : k < e.kids.length := by simpa using hb
  have g0 := getD_map Ex.pv e.kids k hlt
  have q0 : (k : Int) < (e.kids.length : Int) := by omega
  have hi : IntKind.i64.wrap ((k : Int) + 1) = ((k + 1 : Nat) : Int) := by rw [wrap64 (by omega)]; omega
  (repeat (first | refine aSeq fun X hX => ?_ | refine aSkip ?_ | refine aReg ?_; simp -implicitDefEqProofs only [↓slp, slb, ↓reduceIte, reduceCtorEq, jA, jB, jE, tfPsC, h1, h4, pI, g0, q0]; try simp only [fo] | apply hX; clear hX X | apply And.intro; focus omega))
  refine callE (IH k hlt _) ?_
  refine wS (And.intro h4 @pI.eq_1) ?_
  have hx := dpWs_take e.kids k hlt 0
  (repeat revert X); refine wW (And.intro tfPsC (And.intro h3 (And.intro h4 @pI.eq_1))) ?_; repeat intro X hX
  refine aIf ?_; simp -implicitDefEqProofs only [slb, ↓reduceIte]; refine ⟨fun hb => ?_, fun hb => ?_⟩
  ·have hb' : e.kids[k].dpW > Ex.dpWs (e.kids.take k) 0 := by simpa using hb
   (repeat (first | refine aReg ?_; simp -implicitDefEqProofs only [↓slp, slb, ↓reduceIte, jA, tfPsC, h4, pI, hi]; try simp only [fo] | apply hX; clear hX X))
   rw [hI]
   refine ⟨⟨k + 1, hlt, h1, by rw [hx, mxI, if_pos hb']; rfl, rfl, rfl⟩, ?_⟩
   first | omega | (simp only [↓slp, slb, ↓reduceIte, reduceCtorEq, jA, jB, jC, jD, jE, jF, jG, jH, jI, jJ, jK, h4, pI]; omega)
  ·have hb' : ¬ e.kids[k].dpW > Ex.dpWs (e.kids.take k) 0 := by simpa using hb
   (repeat (first | refine aSkip ?_ | refine aReg ?_; simp -implicitDefEqProofs only [↓slp, slb, ↓reduceIte, jA, tfPsC, h4, pI, hi]; try simp only [fo] | apply hX; clear hX X))
   rw [hI]
   refine ⟨⟨k + 1, hlt, h1, by rw [hx, mxI, if_neg hb']; exact h3, rfl, rfl⟩, ?_⟩
   first | omega | (simp only [↓slp, slb, ↓reduceIte, reduceCtorEq, jA, jB, jC, jD, jE, jF, jG, jH, jI, jJ, jK, h4, pI]; omega)
 ·have hlt : k = e.kids.length := by simp at hb; omega
  subst hlt
  (repeat revert X); refine wW (And.intro h3 @pI.eq_1) ?_; repeat intro X hX
  refine wR Tryz.results45 ?_
  refine leave_same rfl ⟨?_, rfl⟩
  rw [e.dpW_eq, List.take_length]; rfl

set_option linter.unusedVariables false
set_option linter.unusedSimpArgs false
open Go

section
variable (L : List Tk)
mutual
def rExpr : Nat → Int → PS → Ex × PS
 | 0, _, s => (z0, s)
 | f + 1, d, s =>
  let s1 := rOpen L d s
  let t := s1.tk L
  let r := rFull f t (d + 1) s1
  if r.2.k == 0 && decide (r.1.dpW > 64) then (r.1, r.2.fail L 3 t.line t.col) else r
def rFull : Nat → Tk → Int → PS → Ex × PS
 | 0, _, _, s => (z0, s)
 | f + 1, t, d, s =>
  if s.k == 0 then
   if s.is L wIf then
    let c := rExpr f d s.nx
    let a := rExpr f d (c.2.want L wThen)
    let b := rExpr f d (a.2.want L wElse)
    (.mk 8 0 0 ⟨#[]⟩ [] [c.1, a.1, b.1] t.line t.col, b.2)
   else
    let e := rBinary f 1 d s
    if e.2.is L wArrow then
     let k := rExpr f d e.2.nx
     (.mk 11 0 0 ⟨#[]⟩ [] [e.1, k.1] t.line t.col, k.2)
    else if e.2.is L wFby then
     let s1 := if isCst e.1 then e.2 else e.2.here L 2
     let k := rExpr f d (s1.want L wFby)
     (.mk 9 0 0 ⟨#[]⟩ [] [e.1, k.1] t.line t.col, k.2)
    else e
  else (z0, s)
def rBinary : Nat → Int → Int → PS → Ex × PS
 | 0, _, _, s => (z0, s)
 | f + 1, least, d, s =>
  let t := s.tk L
  let e := rUnary f d s
  rBin f least d t e.1 e.2
def rBin : Nat → Int → Int → Tk → Ex → PS → Ex × PS
 | 0, _, _, _, e, s => (e, s)
 | f + 1, least, d, t, e, s =>
  if s.k == 0 then
   let o := rOp L s
   if opStr o == 0 || decide (opStr o < least) then (e, s)
   else
    let b := rBinary f (opStr o + 1) d s.nx
    let s2 := if opStr o == 3 && opStr (rOp L b.2) == 3 then b.2.here L 2 else b.2
    rBin f least d t (.mk 7 o 0 ⟨#[]⟩ [] [e, b.1] t.line t.col) s2
  else (e, s)
def rUnary : Nat → Int → PS → Ex × PS
 | 0, _, s => (z0, s)
 | f + 1, d, s =>
  if s.k == 0 then
   let t := s.tk L
   if s.is L wNot then
    let k := rUnary f (d + 1) (rOpen L d s.nx)
    (.mk 6 1 0 ⟨#[]⟩ [] [k.1] t.line t.col, k.2)
   else if s.is L wMinus then
    if (s.nx.tk L).kind == 1 then rWhen L L.length (.mk 1 0 (w32 (0 - (s.nx.tk L).n)) ⟨#[]⟩ [] [] t.line t.col) s.nx.nx
    else
     let k := rUnary f (d + 1) (rOpen L d s.nx)
     (.mk 6 2 0 ⟨#[]⟩ [] [k.1] t.line t.col, k.2)
   else if s.is L wPre then
    let k := rUnary f (d + 1) (rOpen L d s.nx)
    (.mk 10 0 0 ⟨#[]⟩ [] [k.1] t.line t.col, k.2)
   else
    let a := rAtom f d s
    rWhen L L.length a.1 a.2
  else (z0, s)
def rAtom : Nat → Int → PS → Ex × PS
 | 0, _, s => (z0, s)
 | f + 1, d, s =>
  let t := s.tk L
  if t.kind == 1 then
   if !eqS t.text ⟨#[]⟩ && t.n == -2147483648 then (atE t, s.here L 3) else (.mk 1 0 t.n ⟨#[]⟩ [] [] t.line t.col, s.nx)
  else if t.kind == 2 then (.mk 4 0 0 t.text [] [] t.line t.col, s.nx)
  else if t.kind == 3 then (.mk 3 0 0 t.text [] [] t.line t.col, s.nx)
  else if s.is L wTrue then (.mk 2 0 1 ⟨#[]⟩ [] [] t.line t.col, s.nx)
  else if s.is L wFalse then (.mk 2 0 0 ⟨#[]⟩ [] [] t.line t.col, s.nx)
  else if s.is L wLast then
   let a := rName L 2 s.nx
   (.mk 5 0 0 a.1 [] [] t.line t.col, a.2)
  else if s.is L wOpen then
   let x := rExpr f d s.nx
   (x.1, x.2.want L wShut)
  else if s.is L wMerge then
   let a := rName L 2 s.nx
   rMerge f d t a.1 [] [] a.2
  else (atE t, s.here L 2)
def rMerge : Nat → Int → Tk → Str → List Str → List Ex → PS → Ex × PS
 | 0, _, _, _, _, _, s => (z0, s)
 | f + 1, d, t, nm, ns, ks, s =>
  if s.is L wOpen then
   if ks.length == 32 then (.mk 13 0 0 nm ns ks t.line t.col, s.here L 3)
   else
    let c := rCtor L (s.want L wOpen)
    let e := rExpr f d (c.2.want L wArrow)
    rMerge f d t nm (ns ++ [c.1]) (ks ++ [e.1]) (e.2.want L wShut)
  else (.mk 13 0 0 nm ns ks t.line t.col, if ks.length == 0 then s.here L 2 else s)
end
end

structure PS.ok (L : List Tk) (s : PS) : Prop where
 lt : s.i < L.length
 bad : s.k ≠ 0 → s.i = L.length - 1
 kd : s.k = 0 ∨ s.k = 2 ∨ s.k = 3
structure Adv (L : List Tk) (s s' : PS) : Prop where
 le : s.i ≤ s'.i
 ok : s'.ok L
 st : s.k ≠ 0 → s' = s
theorem Adv.refl {L : List Tk} {s : PS} (h : s.ok L) : Adv L s s := ⟨Nat.le_refl _, h, fun _ => rfl⟩
theorem Adv.trans {L : List Tk} {s s' s'' : PS} (h : Adv L s s') (h2 : Adv L s' s'') : Adv L s s'' :=
 ⟨Nat.le_trans h.le h2.le, h2.ok, fun hk => by
  have := h.st hk
  subst this
  exact h2.st hk⟩
theorem tk_next {L : List Tk} (hL : TksOk L) {s : PS} (h : s.ok L) (hk : (s.tk L).kind ≠ 0) : s.i + 1 < L.length := by
 have hlt := h.lt
 refine hL.next _ hlt ?_
 unfold PS.tk tkA at hk
 rwa [List.getD_eq_getElem?_getD, List.getElem?_eq_getElem hlt, Option.getD_some] at hk
theorem tk_mem {L : List Tk} {s : PS} (h : s.ok L) : s.tk L ∈ L := by
 have hlt := h.lt
 unfold PS.tk tkA
 rw [List.getD_eq_getElem?_getD, List.getElem?_eq_getElem hlt, Option.getD_some]
 exact List.getElem_mem _
theorem fail_adv {L : List Tk} (hL : TksOk L) {s : PS} (h : s.ok L) (k l c : Int) (hk2 : k = 2 ∨ k = 3 := by decide) : Adv L s (s.fail L k l c) := by
 have hp := hL.pos
 have := h.lt
 refine ⟨?_, ⟨?_, fun _ => ?_, ?_⟩, fun hk => ?_⟩
 ·unfold PS.fail; split <;> simp <;> omega
 ·unfold PS.fail; split <;> simp <;> omega
 ·unfold PS.fail; split <;> rfl
 ·unfold PS.fail; split
  ·exact .inr hk2
  ·exact h.kd
 ·unfold PS.fail
  rw [if_neg hk]
  have := h.bad hk
  cases s
  simp at this ⊢
  omega
theorem here_adv {L : List Tk} (hL : TksOk L) {s : PS} (h : s.ok L) (k : Int) (hk2 : k = 2 ∨ k = 3 := by decide) : Adv L s (s.here L k) := fail_adv hL h _ _ _ hk2
theorem fail_k {L : List Tk} {s : PS} {k l c : Int} (hk : k ≠ 0) : (s.fail L k l c).k ≠ 0 := by
 unfold PS.fail; split <;> assumption
theorem nx_adv {L : List Tk} (hL : TksOk L) {s : PS} (h : s.ok L) (h0 : s.k = 0) (hk : (s.tk L).kind ≠ 0) : Adv L s s.nx :=
 ⟨Nat.le_succ _, ⟨tk_next hL h hk, fun h2 => absurd h0 h2, .inl h0⟩, fun h2 => absurd h0 h2⟩
theorem is_of {L : List Tk} {s : PS} {w : Str} (h : s.is L w = true) : s.k = 0 ∧ (s.tk L).kind ≠ 0 ∧ 4 ≤ (s.tk L).kind ∧ eqS (s.tk L).text w = true := by
 unfold PS.is at h
 simp only [Bool.and_eq_true, beq_iff_eq, decide_eq_true_eq] at h
 exact ⟨h.1.1, by omega, h.1.2, h.2⟩
theorem is_adv {L : List Tk} (hL : TksOk L) {s : PS} (h : s.ok L) {w : Str} (hi : s.is L w = true) : Adv L s s.nx := by
 obtain ⟨h0, hk, _⟩ := is_of hi
 exact nx_adv hL h h0 hk
theorem skp_adv {L : List Tk} (hL : TksOk L) {s : PS} (h : s.ok L) (w : Str) : Adv L s (s.skp L w) := by
 unfold PS.skp
 split
 ·rename_i hi; exact is_adv hL h hi
 ·exact .refl h
theorem want_adv {L : List Tk} (hL : TksOk L) {s : PS} (h : s.ok L) (w : Str) : Adv L s (s.want L w) := by
 unfold PS.want
 split
 ·rename_i hi; exact is_adv hL h hi
 ·exact here_adv hL h 2
theorem want_pr {L : List Tk} {s : PS} {w : Str} (h : (s.want L w).k = 0) : s.i + 1 = (s.want L w).i := by
 unfold PS.want at *
 split
 ·rfl
 ·rename_i hi
  rw [if_neg hi] at h
  exact absurd h (fail_k (by decide))
theorem name_adv {L : List Tk} (hL : TksOk L) {s : PS} (h : s.ok L) {kd : Int} (hkd : kd ≠ 0) : Adv L s (rName L kd s).2 := by
 unfold rName
 split
 ·rename_i hi
  simp only [Bool.and_eq_true, beq_iff_eq] at hi
  exact nx_adv hL h hi.1 (by rw [hi.2]; exact hkd)
 ·exact here_adv hL h 2
theorem name_pr {L : List Tk} {s : PS} {kd : Int} (h : (rName L kd s).2.k = 0) : s.i + 1 = (rName L kd s).2.i := by
 unfold rName at *
 split
 ·rfl
 ·rename_i hi
  rw [if_neg hi] at h
  exact absurd h (fail_k (by decide))
theorem ctor_adv {L : List Tk} (hL : TksOk L) {s : PS} (h : s.ok L) : Adv L s (rCtor L s).2 := by
 unfold rCtor
 split
 ·rename_i hi; exact is_adv hL h hi
 ·split
  ·rename_i hi; exact is_adv hL h hi
  ·exact name_adv hL h (by decide)
theorem on_adv {L : List Tk} (hL : TksOk L) {s : PS} (h : s.ok L) : Adv L s (rOn L s).2 := by
 have h1 := ctor_adv hL h
 have h2 := want_adv hL h1.ok wOpen
 have h3 := name_adv hL h2.ok (kd := 2) (by decide)
 exact ((h1.trans h2).trans h3).trans (want_adv hL h3.ok wShut)
theorem open_adv {L : List Tk} (hL : TksOk L) {s : PS} (h : s.ok L) (d : Int) : Adv L s (rOpen L d s) := by
 unfold rOpen
 split
 ·exact here_adv hL h 3
 ·exact .refl h
theorem when_adv {L : List Tk} (hL : TksOk L) : ∀ (f : Nat) (e : Ex) (s : PS), s.ok L → Adv L s (rWhen L f e s).2
 | 0, e, s, h => .refl h
 | f + 1, e, s, h => by
  unfold rWhen
  split
  ·rename_i hi
   have h1 := is_adv hL h hi
   have h2 := on_adv hL h1.ok
   exact (h1.trans h2).trans (when_adv hL f _ _ h2.ok)
  ·exact .refl h
def Pr (s s' : PS) : Prop := s'.k = 0 → s.i < s'.i
theorem Adv.k {L : List Tk} {s s' : PS} (h : Adv L s s') (hk : s'.k = 0) : s.k = 0 := by
 apply Classical.byContradiction
 intro h2
 have := h.st h2
 subst this
 exact h2 hk
theorem Pr.after {L : List Tk} {s s' s'' : PS} (h : Pr s s') (h2 : Adv L s' s'') : Pr s s'' := fun hk => Nat.lt_of_lt_of_le (h (h2.k hk)) h2.le
theorem Adv.pr {L : List Tk} {s s' s'' : PS} (h : Adv L s s') (h2 : Pr s' s'') : Pr s s'' := fun hk => Nat.lt_of_le_of_lt h.le (h2 hk)
theorem pr_nx {L : List Tk} {s s' : PS} (h2 : Adv L s.nx s') : Pr s s' := fun _ => Nat.lt_of_lt_of_le (Nat.lt_succ_self _) h2.le
theorem pr_bad {s s' : PS} (h : s'.k ≠ 0) : Pr s s' := fun h2 => absurd h2 h
def mu (L : List Tk) (s : PS) : Nat := if s.k = 0 then 16 * (L.length - s.i) else 0
theorem mu_le {L : List Tk} {s s' : PS} (h : Adv L s s') : mu L s' ≤ mu L s := by
 unfold mu
 by_cases hk : s'.k = 0
 ·rw [if_pos hk, if_pos (h.k hk)]
  have := h.le
  omega
 ·rw [if_neg hk]; exact Nat.zero_le _
theorem mu_lt {L : List Tk} {s s' : PS} (h : Adv L s s') (hs : s.ok L) (h0 : s.k = 0) (hp : Pr s s') : mu L s' + 16 ≤ mu L s := by
 have := hs.lt
 unfold mu
 rw [if_pos h0]
 by_cases hk : s'.k = 0
 ·rw [if_pos hk]
  have := hp hk
  have := h.ok.lt
  omega
 ·rw [if_neg hk]; omega
theorem mu_nx {L : List Tk} (hL : TksOk L) {s : PS} (h : s.ok L) (h0 : s.k = 0) (hk : (s.tk L).kind ≠ 0) : mu L s.nx + 16 ≤ mu L s := mu_lt (nx_adv hL h h0 hk) h h0 (pr_nx (.refl (nx_adv hL h h0 hk).ok))
structure ExL (L : List Tk) (f : Nat) : Prop where
 expr : ∀ (d : Int) (s : PS), s.ok L → mu L s + 5 ≤ f → Adv L s (rExpr L f d s).2 ∧ Pr s (rExpr L f d s).2
 full : ∀ (t : Tk) (d : Int) (s : PS), s.ok L → mu L s + 4 ≤ f → Adv L s (rFull L f t d s).2 ∧ Pr s (rFull L f t d s).2
 binary : ∀ (least d : Int) (s : PS), s.ok L → mu L s + 3 ≤ f → Adv L s (rBinary L f least d s).2 ∧ Pr s (rBinary L f least d s).2
 bin : ∀ (least d : Int) (t : Tk) (e : Ex) (s : PS), s.ok L → mu L s + 1 ≤ f → Adv L s (rBin L f least d t e s).2
 unary : ∀ (d : Int) (s : PS), s.ok L → mu L s + 2 ≤ f → Adv L s (rUnary L f d s).2 ∧ Pr s (rUnary L f d s).2
 atom : ∀ (d : Int) (s : PS), s.ok L → s.k = 0 → mu L s + 1 ≤ f → Adv L s (rAtom L f d s).2 ∧ Pr s (rAtom L f d s).2
 merge : ∀ (d : Int) (t : Tk) (nm : Str) (ns : List Str) (ks : List Ex) (s : PS), s.ok L → mu L s + 1 ≤ f → Adv L s (rMerge L f d t nm ns ks s).2
theorem bad_pr {L : List Tk} {s s' : PS} (h : Adv L s s') (hk : s.k ≠ 0) : Pr s s' := pr_bad (by rw [h.st hk]; exact hk)
theorem op_is {L : List Tk} : ∀ (f : Nat) (o : Int) (s : PS), rOpF L f o s ≠ 0 → s.k = 0 ∧ (s.tk L).kind ≠ 0
 | 0, o, s, h => absurd rfl h
 | f + 1, o, s, h => by
  unfold rOpF at h
  split at h
  ·rename_i hi
   obtain ⟨h1, h2, _⟩ := is_of hi
   exact ⟨h1, h2⟩
  ·exact op_is f _ s h
theorem exL {L : List Tk} (hL : TksOk L) : ∀ f : Nat, ExL L f
 | 0 => ⟨fun _ _ _ h => by omega, fun _ _ _ _ h => by omega, fun _ _ _ _ h => by omega, fun _ _ _ _ _ _ h => by omega, fun _ _ _ h => by omega, fun _ _ _ _ h => by omega, fun _ _ _ _ _ _ _ h => by omega⟩
 | f + 1 => by
  have IH := exL hL f
  have pf := hL.pos
  refine ⟨fun d s h hf => ?_, fun t d s h hf => ?_, fun least d s h hf => ?_, fun least d t e s h hf => ?_, fun d s h hf => ?_, fun d s h h0 hf => ?_, fun d t nm ns ks s h hf => ?_⟩
  ·have h1 := open_adv hL h d
   have := mu_le h1
   obtain ⟨h2, h3⟩ := IH.full ((rOpen L d s).tk L) (d + 1) _ h1.ok (by omega)
   rw [rExpr]
   try simp only []
   split
   ·have h4 := fail_adv hL h2.ok 3 ((rOpen L d s).tk L).line ((rOpen L d s).tk L).col
    exact ⟨(h1.trans h2).trans h4, pr_bad (fail_k (by decide))⟩
   ·exact ⟨h1.trans h2, h1.pr h3⟩
  ·rw [rFull]
   try simp only []
   split
   ·rename_i h0
    have h0 : s.k = 0 := by simpa using h0
    split
    ·rename_i hi
     have a1 := is_adv hL h hi
     have hm := mu_nx hL h h0 (is_of hi).2.1
     obtain ⟨a2, _⟩ := IH.expr d _ a1.ok (by omega)
     have a3 := want_adv hL a2.ok wThen
     have := mu_le (a2.trans a3)
     obtain ⟨a4, _⟩ := IH.expr d _ a3.ok (by omega)
     have a5 := want_adv hL a4.ok wElse
     have := mu_le (a4.trans a5)
     obtain ⟨a6, _⟩ := IH.expr d _ a5.ok (by omega)
     have hh := (((a2.trans a3).trans a4).trans a5).trans a6
     exact ⟨a1.trans hh, pr_nx hh⟩
    ·obtain ⟨b1, b2⟩ := IH.binary 1 d s h (by omega)
     split
     ·rename_i hi
      have a1 := is_adv hL b1.ok hi
      have hm := mu_nx hL b1.ok (is_of hi).1 (is_of hi).2.1
      have := mu_le b1
      obtain ⟨a2, _⟩ := IH.expr d _ a1.ok (by omega)
      exact ⟨(b1.trans a1).trans a2, b2.after (a1.trans a2)⟩
     ·split
      ·rename_i hi
       have a1 : Adv L (rBinary L f 1 d s).2 (if isCst (rBinary L f 1 d s).1 then (rBinary L f 1 d s).2 else (rBinary L f 1 d s).2.here L 2) := by
        split
        ·exact .refl b1.ok
        ·exact here_adv hL b1.ok 2
       have a3 := want_adv hL a1.ok wFby
       have hp : Pr (rBinary L f 1 d s).2 (((if isCst (rBinary L f 1 d s).1 then (rBinary L f 1 d s).2 else (rBinary L f 1 d s).2.here L 2)).want L wFby) := fun hk => by
        have := want_pr hk
        have := a1.le
        omega
       have hm := mu_lt (a1.trans a3) b1.ok (is_of hi).1 hp
       have := mu_le b1
       obtain ⟨a4, _⟩ := IH.expr d _ a3.ok (by omega)
       exact ⟨b1.trans ((a1.trans a3).trans a4), b2.after ((a1.trans a3).trans a4)⟩
      ·exact ⟨b1, b2⟩
   ·rename_i h0
    have h0 : s.k ≠ 0 := by simpa using h0
    exact ⟨.refl h, pr_bad h0⟩
  ·rw [rBinary]
   try simp only []
   obtain ⟨b1, b2⟩ := IH.unary d s h (by omega)
   by_cases hk : s.k = 0
   ·have := mu_lt b1 h hk b2
    have c1 := IH.bin least d (s.tk L) (rUnary L f d s).1 _ b1.ok (by omega)
    exact ⟨b1.trans c1, b2.after c1⟩
   ·have he := b1.st hk
    have hm : mu L (rUnary L f d s).2 = 0 := by rw [he]; unfold mu; rw [if_neg hk]
    have c1 := IH.bin least d (s.tk L) (rUnary L f d s).1 _ b1.ok (by omega)
    exact ⟨b1.trans c1, bad_pr (b1.trans c1) hk⟩
  ·rw [rBin]
   try simp only []
   split
   ·rename_i h0
    have h0 : s.k = 0 := by simpa using h0
    split
    ·exact .refl h
    ·rename_i ho
     have hne : rOp L s ≠ 0 := fun e => ho (by rw [e]; rfl)
     obtain ⟨_, hk⟩ := op_is _ _ _ hne
     have a1 := nx_adv hL h h0 hk
     have hm := mu_nx hL h h0 hk
     obtain ⟨a2, _⟩ := IH.binary (opStr (rOp L s) + 1) d _ a1.ok (by omega)
     have a3 : Adv L (rBinary L f (opStr (rOp L s) + 1) d s.nx).2 (if (opStr (rOp L s) == 3 && opStr (rOp L (rBinary L f (opStr (rOp L s) + 1) d s.nx).2) == 3) = true then (rBinary L f (opStr (rOp L s) + 1) d s.nx).2.here L 2 else (rBinary L f (opStr (rOp L s) + 1) d s.nx).2) := by
      split
      ·exact here_adv hL a2.ok 2
      ·exact .refl a2.ok
     have := mu_le (a2.trans a3)
     exact ((a1.trans a2).trans a3).trans (IH.bin least d t _ _ a3.ok (by omega))
   ·exact .refl h
  ·rw [rUnary]
   try simp only []
   split
   ·rename_i h0
    have h0 : s.k = 0 := by simpa using h0
    have un : ∀ {w : Str}, s.is L w = true → Adv L s (rUnary L f (d + 1) (rOpen L d s.nx)).2 ∧ Pr s (rUnary L f (d + 1) (rOpen L d s.nx)).2 := fun {w} hi => by
     have a1 := is_adv hL h hi
     have hm := mu_nx hL h h0 (is_of hi).2.1
     have a2 := open_adv hL a1.ok d
     have := mu_le a2
     obtain ⟨a3, _⟩ := IH.unary (d + 1) _ a2.ok (by omega)
     exact ⟨a1.trans (a2.trans a3), pr_nx (a2.trans a3)⟩
    split
    ·rename_i hi; exact un hi
    ·split
     ·rename_i hi
      split
      ·rename_i hn
       have hn : (s.nx.tk L).kind = 1 := by simpa using hn
       have a1 := is_adv hL h hi
       have a2 := nx_adv hL a1.ok h0 (by rw [hn]; decide)
       have a3 := when_adv hL L.length (.mk 1 0 (w32 (0 - (s.nx.tk L).n)) ⟨#[]⟩ [] [] (s.tk L).line (s.tk L).col) _ a2.ok
       exact ⟨a1.trans (a2.trans a3), pr_nx (a2.trans a3)⟩
      ·exact un hi
     ·split
      ·rename_i hi; exact un hi
      ·obtain ⟨a1, a2⟩ := IH.atom d s h h0 (by omega)
       have a3 := when_adv hL L.length (rAtom L f d s).1 _ a1.ok
       exact ⟨a1.trans a3, a2.after a3⟩
   ·rename_i h0
    have h0 : s.k ≠ 0 := by simpa using h0
    exact ⟨.refl h, pr_bad h0⟩
  ·rw [rAtom]
   try simp only []
   have nx : (s.tk L).kind ≠ 0 → Adv L s s.nx ∧ Pr s s.nx := fun hk => by
    have := nx_adv hL h h0 hk
    exact ⟨this, pr_nx (.refl this.ok)⟩
   have isx : ∀ {w : Str}, s.is L w = true → Adv L s s.nx ∧ Pr s s.nx := fun {w} hi => nx (is_of hi).2.1
   split
   ·rename_i hk
    split
    ·exact ⟨here_adv hL h 3, pr_bad (fail_k (by decide))⟩
    ·exact nx (by simp at hk; omega)
   split
   ·rename_i hk
    exact nx (by simp at hk; omega)
   split
   ·rename_i hk
    exact nx (by simp at hk; omega)
   split
   ·rename_i hi; exact isx hi
   split
   ·rename_i hi; exact isx hi
   split
   ·rename_i hi
    have a1 := (isx hi).1
    have a2 := name_adv hL a1.ok (kd := 2) (by decide)
    exact ⟨a1.trans a2, pr_nx a2⟩
   split
   ·rename_i hi
    have a1 := (isx hi).1
    have hm := mu_nx hL h h0 (is_of hi).2.1
    obtain ⟨a2, _⟩ := IH.expr d _ a1.ok (by omega)
    have a3 := want_adv hL a2.ok wShut
    exact ⟨a1.trans (a2.trans a3), pr_nx (a2.trans a3)⟩
   split
   ·rename_i hi
    have a1 := (isx hi).1
    have hm := mu_nx hL h h0 (is_of hi).2.1
    have a2 := name_adv hL a1.ok (kd := 2) (by decide)
    have := mu_le a2
    have a3 := IH.merge d (s.tk L) (rName L 2 s.nx).1 [] [] _ a2.ok (by omega)
    exact ⟨a1.trans (a2.trans a3), pr_nx (a2.trans a3)⟩
   ·exact ⟨here_adv hL h 2, pr_bad (fail_k (by decide))⟩
  ·rw [rMerge]
   try simp only []
   split
   ·rename_i hi
    have hw : s.want L wOpen = s.nx := by unfold PS.want; rw [if_pos hi]
    split
    ·exact here_adv hL h 3
    ·have a1 := is_adv hL h hi
     have hm := mu_nx hL h (is_of hi).1 (is_of hi).2.1
     rw [hw]
     have a2 := ctor_adv hL a1.ok
     have a3 := want_adv hL a2.ok wArrow
     have := mu_le (a2.trans a3)
     obtain ⟨a4, _⟩ := IH.expr d _ a3.ok (by omega)
     have a5 := want_adv hL a4.ok wShut
     have := mu_le (a4.trans a5)
     exact a1.trans ((a2.trans a3).trans ((a4.trans a5).trans (IH.merge d t nm _ _ _ a5.ok (by omega))))
   ·split
    ·exact here_adv hL h 2
    ·exact .refl h

set_option linter.unusedVariables false
set_option linter.unusedSimpArgs false
open Go

section
variable (L : List Tk)
def fx : Nat := 16 * L.length + 16
def eX (d : Int) (s : PS) : Ex × PS := rExpr L (fx L) d s
def rTyp (s : PS) : Ty × PS :=
 if s.is L wBool then (⟨1, ⟨#[]⟩⟩, s.nx) else if s.is L wInt then (⟨2, ⟨#[]⟩⟩, s.nx) else (⟨3, (rName L 2 s).1⟩, (rName L 2 s).2)
def rCks : Nat → List On → PS → List On × PS
 | 0, l, s => (l, s)
 | f + 1, l, s => if s.is L wWhen then rCks f (l ++ [(rOn L s.nx).1]) (rOn L s.nx).2 else (l, s)
def rFirst (d : Int) (s : PS) : Ex × PS :=
 let e := rUnary L (fx L) d (s.want L wEq)
 (e.1, if e.2.k == 0 && !isCst e.1 then e.2.fail L 2 e.1.line e.1.col else e.2)
def rVar (d : Int) (s : PS) : Va × PS :=
 let s1 := s.skp L wLast
 let nm := rName L 2 s1
 let t := rTyp L (nm.2.want L wColon)
 let ck := rCks L L.length [] t.2
 if s.is L wLast then
  let e := rFirst L d ck.2
  (⟨nm.1, t.1, ck.1, true, e.1, (s1.tk L).line, (s1.tk L).col⟩, e.2)
 else (⟨nm.1, t.1, ck.1, false, z0, (s1.tk L).line, (s1.tk L).col⟩, ck.2)
def rParL : Nat → Int → List Va → PS → List Va × PS
 | 0, _, l, s => (l, s)
 | f + 1, d, l, s => if s.k == 0 then
     let v := rVar L d s
     if v.2.is L wSemi then rParL f d (l ++ [v.1]) v.2.nx else (l ++ [v.1], v.2)
   else (l, s)
def rParams (d : Int) (s : PS) : List Va × PS := if s.is L wShut then ([], s) else rParL L (L.length + 1) d [] s
def rLocL : Nat → Int → List Va → PS → List Va × PS
 | 0, _, l, s => (l, s)
 | f + 1, d, l, s => if s.k == 0 then
     let v := rVar L d s
     let s1 := v.2.want L wSemi
     if !((s1.tk L).kind == 2) && !s1.is L wLast then (l ++ [v.1], s1) else rLocL f d (l ++ [v.1]) s1
   else (l, s)
def rLocals (d : Int) (s : PS) : List Va × PS := if s.is L wVar then rLocL L (L.length + 1) d [] s.nx else ([], s)
def rLhsL : Nat → List Str → PS → List Str × PS
 | 0, l, s => (l, s)
 | f + 1, l, s => if s.k == 0 && !s.is L wShut then
     let a := rName L 2 (if l.length == 0 then s else s.want L wComma)
     rLhsL f (l ++ [a.1]) a.2
   else (l, s.skp L wShut)
def rLhs (s : PS) : List Str × PS := if s.is L wOpen then rLhsL L (L.length + 1) [] s.nx else ([(rName L 2 s).1], (rName L 2 s).2)
def rArgL : Nat → Int → List Ex → PS → List Ex × PS
 | 0, _, l, s => (l, s)
 | f + 1, d, l, s => if s.k == 0 && !s.is L wShut then
     let a := eX L d (if l.length == 0 then s else s.want L wComma)
     rArgL f d (l ++ [a.1]) a.2
   else (l, s.skp L wShut)
def PS.call (s : PS) : Bool := (s.tk L).kind == 2 && (tkA L (s.i + 1)).kind == 5 && eqS (tkA L (s.i + 1)).text wOpen
def rRight (d : Int) (lhs : List Str) (t : Tk) (s : PS) : Qu × PS :=
 if s.k == 0 then
  if s.call L then
   let nm := rName L 2 s
   let a := rArgL L (L.length + 1) d [] (nm.2.want L wOpen)
   if a.2.is L wEvery then
    let e := eX L d a.2.nx
    (.mk 2 lhs nm.1 a.1 true e.1 [] t.line t.col, e.2)
   else (.mk 2 lhs nm.1 a.1 false z0 [] t.line t.col, a.2)
  else
   let e := eX L d (if lhs.length == 1 then s else s.here L 2)
   (.mk 1 lhs ⟨#[]⟩ [] false e.1 [] t.line t.col, e.2)
 else (.mk 0 lhs ⟨#[]⟩ [] false z0 [] t.line t.col, s)
def rWayL : Nat → Int → Str → List Tr → PS → List Tr × PS
 | 0, _, _, l, s => (l, s)
 | f + 1, d, w, l, s => if s.is L w then
     let e := eX L d (s.want L w)
     let s1 := if e.2.is L wCont then e.2.nx else e.2.want L wThen
     let to := rName L 3 s1
     rWayL f d w (l ++ [⟨e.1, to.1, e.2.is L wCont, (s.tk L).line, (s.tk L).col⟩]) to.2
   else (l, s)
def rWays (d : Int) (w : Str) (s : PS) : List Tr × PS := rWayL L (L.length + 1) d w [] s
mutual
def rBlock : Nat → Int → PS → (List Va × List Qu) × PS
 | 0, _, s => (([], []), s)
 | f + 1, d, s =>
  let vs := rLocals L (d + 1) (rOpen L d s)
  let qs := rEqs f (d + 1) [] (vs.2.want L wDo)
  ((vs.1, qs.1), qs.2)
def rEqs : Nat → Int → List Qu → PS → List Qu × PS
 | 0, _, l, s => (l, s)
 | f + 1, d, l, s => if s.k == 0 then
     if !((s.tk L).kind == 2) && !s.is L wOpen && !s.is L wSwitch && !s.is L wAuto && !s.is L wReset then (l, s)
     else
      let q := rEq f d s
      rEqs f d (l ++ [q.1]) (q.2.want L wSemi)
   else (l, s)
def rEq : Nat → Int → PS → Qu × PS
 | 0, _, s => (.mk 0 [] ⟨#[]⟩ [] false z0 [] 0 0, s)
 | f + 1, d, s =>
  let t := s.tk L
  if s.is L wSwitch then
   let e := eX L d s.nx
   let a := rArms f d false e.2
   (.mk 3 [] ⟨#[]⟩ [] false e.1 a.1 t.line t.col, a.2)
  else if s.is L wAuto then
   let a := rArms f d true s.nx
   (.mk 4 [] ⟨#[]⟩ [] false z0 a.1 t.line t.col, a.2)
  else if s.is L wReset then
   let b := rBlock f d s.nx
   let e := eX L d (b.2.want L wEvery)
   (.mk 5 [] ⟨#[]⟩ [] false e.1 [.mk ⟨#[]⟩ b.1.1 b.1.2 [] [] t.line t.col] t.line t.col, e.2)
  else
   let l := rLhs L s
   rRight L d l.1 t (l.2.want L wEq)
def rArms : Nat → Int → Bool → PS → List Am × PS
 | 0, _, _, s => ([], s)
 | f + 1, d, st, s =>
  let l := rArmL f d st [] s
  (l.1, (if l.1.length == 0 then l.2.here L 2 else l.2).want L wEnd)
def rArmL : Nat → Int → Bool → List Am → PS → List Am × PS
 | 0, _, _, l, s => (l, s)
 | f + 1, d, st, l, s => if s.is L wBar then
     if l.length == 32 then (l, s.here L 3)
     else
      let s1 := s.want L wBar
      let nm := if st then rName L 3 s1 else rCtor L s1
      let b := rBlock f d nm.2
      if st then
       let u := rWays L d wUnless b.2
       let w := rWays L d wUntil u.2
       rArmL f d st (l ++ [.mk nm.1 b.1.1 b.1.2 u.1 w.1 (s1.tk L).line (s1.tk L).col]) w.2
      else rArmL f d st (l ++ [.mk nm.1 b.1.1 b.1.2 [] [] (s1.tk L).line (s1.tk L).col]) b.2
   else (l, s)
end
def fq : Nat := 16 * L.length + 16
def rCtL : Nat → List Str → PS → List Str × PS
 | 0, l, s => (l, s)
 | f + 1, l, s => if s.k == 0 then
     let s1 := if l.length == 32 then s.here L 3 else s
     let a := rName L 3 s1
     if a.2.is L wBar then rCtL f (l ++ [a.1]) a.2.nx else (l ++ [a.1], a.2)
   else (l, s)
def rEnum (s : PS) : En × PS :=
 let s1 := s.want L wType
 let nm := rName L 2 s1
 let c := rCtL L (L.length + 1) [] (nm.2.want L wEq)
 (⟨nm.1, c.1, (s1.tk L).line, (s1.tk L).col⟩, c.2.want L wSemi)
def rNode (s : PS) : No × PS :=
 let s1 := s.want L wNode
 let nm := rName L 2 s1
 let a := rParams L 0 (nm.2.want L wOpen)
 let b := rParams L 0 (((a.2.want L wShut).want L wReturns).want L wOpen)
 let vs := rLocals L 0 (b.2.want L wShut)
 let qs := rEqs L (fq L) 0 [] (vs.2.want L wLet)
 (⟨nm.1, a.1, b.1, ⟨vs.1, qs.1⟩, (s1.tk L).line, (s1.tk L).col⟩, qs.2.want L wTel)
def rProg : Nat → List En → List No → PS → (List En × List No) × PS
 | 0, es, ns, s => ((es, ns), s)
 | f + 1, es, ns, s => if s.k == 0 then
     if s.is L wType then rProg f (es ++ [(rEnum L s).1]) ns (rEnum L s).2
     else if s.is L wNode then
      let s1 := if ns.length == 64 then s.here L 3 else s
      rProg f es (ns ++ [(rNode L s1).1]) (rNode L s1).2
     else ((es, ns), if (s.tk L).kind == 0 then s else s.here L 2)
   else ((es, ns), s)
end

set_option linter.unusedVariables false
set_option linter.unusedSimpArgs false
open Go

theorem mu_fx {L : List Tk} {s : PS} : mu L s ≤ 16 * L.length := by unfold mu; split <;> omega
section
variable {L : List Tk} (hL : TksOk L)
include hL
theorem eX_adv {d : Int} {s : PS} (h : s.ok L) : Adv L s (eX L d s).2 ∧ Pr s (eX L d s).2 := by
 have := mu_fx (L := L) (s := s)
 exact (exL hL (fx L)).expr d s h (by unfold fx; omega)
theorem un_adv {d : Int} {s : PS} (h : s.ok L) : Adv L s (rUnary L (fx L) d s).2 ∧ Pr s (rUnary L (fx L) d s).2 := by
 have := mu_fx (L := L) (s := s)
 exact (exL hL (fx L)).unary d s h (by unfold fx; omega)
theorem typ_adv {s : PS} (h : s.ok L) : Adv L s (rTyp L s).2 := by
 unfold rTyp
 split
 ·rename_i hi; exact is_adv hL h hi
 ·split
  ·rename_i hi; exact is_adv hL h hi
  ·exact name_adv hL h (by decide)
theorem cks_adv : ∀ (f : Nat) (l : List On) (s : PS), s.ok L → Adv L s (rCks L f l s).2
 | 0, l, s, h => .refl h
 | f + 1, l, s, h => by
  unfold rCks
  split
  ·rename_i hi
   have h1 := is_adv hL h hi
   have h2 := on_adv hL h1.ok
   exact (h1.trans h2).trans (cks_adv f _ _ h2.ok)
  ·exact .refl h
theorem first_adv {d : Int} {s : PS} (h : s.ok L) : Adv L s (rFirst L d s).2 := by
 have h1 := want_adv hL h wEq
 have h2 := (un_adv hL (d := d) h1.ok).1
 unfold rFirst
 try simp only []
 split
 ·exact (h1.trans h2).trans (fail_adv hL h2.ok _ _ _)
 ·exact h1.trans h2
theorem var_adv {d : Int} {s : PS} (h : s.ok L) : Adv L s (rVar L d s).2 := by
 have h1 := skp_adv hL h wLast
 have h2 := name_adv hL h1.ok (kd := 2) (by decide)
 have h3 := want_adv hL h2.ok wColon
 have h4 := typ_adv hL h3.ok
 have h5 := cks_adv hL L.length [] _ h4.ok
 have hh := ((h1.trans h2).trans (h3.trans h4)).trans h5
 unfold rVar
 try simp only []
 split
 ·exact hh.trans (first_adv hL h5.ok)
 ·exact hh
theorem parL_adv : ∀ (f : Nat) (d : Int) (l : List Va) (s : PS), s.ok L → Adv L s (rParL L f d l s).2
 | 0, d, l, s, h => .refl h
 | f + 1, d, l, s, h => by
  unfold rParL
  split
  ·have h1 := var_adv hL (d := d) h
   try simp only []
   split
   ·rename_i hi
    have h2 := is_adv hL h1.ok hi
    exact (h1.trans h2).trans (parL_adv f d _ _ h2.ok)
   ·exact h1
  ·exact .refl h
theorem params_adv {d : Int} {s : PS} (h : s.ok L) : Adv L s (rParams L d s).2 := by
 unfold rParams
 split
 ·exact .refl h
 ·exact parL_adv hL _ d [] s h
theorem locL_adv : ∀ (f : Nat) (d : Int) (l : List Va) (s : PS), s.ok L → Adv L s (rLocL L f d l s).2
 | 0, d, l, s, h => .refl h
 | f + 1, d, l, s, h => by
  unfold rLocL
  split
  ·have h1 := var_adv hL (d := d) h
   have h2 := want_adv hL h1.ok wSemi
   try simp only []
   split
   ·exact h1.trans h2
   ·exact (h1.trans h2).trans (locL_adv f d _ _ h2.ok)
  ·exact .refl h
theorem locals_adv {d : Int} {s : PS} (h : s.ok L) : Adv L s (rLocals L d s).2 := by
 unfold rLocals
 split
 ·rename_i hi
  have h1 := is_adv hL h hi
  exact h1.trans (locL_adv hL _ d [] _ h1.ok)
 ·exact .refl h
theorem lhsL_adv : ∀ (f : Nat) (l : List Str) (s : PS), s.ok L → Adv L s (rLhsL L f l s).2
 | 0, l, s, h => .refl h
 | f + 1, l, s, h => by
  unfold rLhsL
  split
  ·have h1 : Adv L s (if l.length == 0 then s else s.want L wComma) := by
     split
     ·exact .refl h
     ·exact want_adv hL h _
   have h2 := name_adv hL h1.ok (kd := 2) (by decide)
   exact (h1.trans h2).trans (lhsL_adv f _ _ h2.ok)
  ·exact skp_adv hL h _
theorem lhs_adv {s : PS} (h : s.ok L) : Adv L s (rLhs L s).2 := by
 unfold rLhs
 split
 ·rename_i hi
  have h1 := is_adv hL h hi
  exact h1.trans (lhsL_adv hL _ [] _ h1.ok)
 ·exact name_adv hL h (by decide)
theorem argL_adv : ∀ (f : Nat) (d : Int) (l : List Ex) (s : PS), s.ok L → Adv L s (rArgL L f d l s).2
 | 0, d, l, s, h => .refl h
 | f + 1, d, l, s, h => by
  unfold rArgL
  split
  ·have h1 : Adv L s (if l.length == 0 then s else s.want L wComma) := by
     split
     ·exact .refl h
     ·exact want_adv hL h _
   have h2 := (eX_adv hL (d := d) h1.ok).1
   exact (h1.trans h2).trans (argL_adv f d _ _ h2.ok)
  ·exact skp_adv hL h _
theorem right_adv {d : Int} {lhs : List Str} {t : Tk} {s : PS} (h : s.ok L) : Adv L s (rRight L d lhs t s).2 := by
 unfold rRight
 split
 ·split
  ·have h1 := name_adv hL h (kd := 2) (by decide)
   have h2 := want_adv hL h1.ok wOpen
   have h3 := argL_adv hL (L.length + 1) d [] _ h2.ok
   try simp only []
   split
   ·rename_i hi
    have h4 := is_adv hL h3.ok hi
    exact ((h1.trans h2).trans (h3.trans h4)).trans (eX_adv hL h4.ok).1
   ·exact (h1.trans h2).trans h3
  ·have h1 : Adv L s (if lhs.length == 1 then s else s.here L 2) := by
     split
     ·exact .refl h
     ·exact here_adv hL h 2
   exact h1.trans (eX_adv hL h1.ok).1
 ·exact .refl h
theorem wayL_adv : ∀ (f : Nat) (d : Int) (w : Str) (l : List Tr) (s : PS), s.ok L → Adv L s (rWayL L f d w l s).2
 | 0, d, w, l, s, h => .refl h
 | f + 1, d, w, l, s, h => by
  unfold rWayL
  split
  ·have h1 := want_adv hL h w
   have h2 := (eX_adv hL (d := d) h1.ok).1
   have h3 : Adv L (eX L d (s.want L w)).2 (if (eX L d (s.want L w)).2.is L wCont = true then (eX L d (s.want L w)).2.nx else (eX L d (s.want L w)).2.want L wThen) := by
    split
    ·rename_i hi; exact is_adv hL h2.ok hi
    ·exact want_adv hL h2.ok _
   have h4 := name_adv hL h3.ok (kd := 3) (by decide)
   exact ((h1.trans h2).trans (h3.trans h4)).trans (wayL_adv f d w _ _ h4.ok)
  ·exact .refl h
theorem ways_adv {d : Int} {w : Str} {s : PS} (h : s.ok L) : Adv L s (rWays L d w s).2 := wayL_adv hL _ d w [] s h
end
structure QuL (L : List Tk) (f : Nat) : Prop where
 block : ∀ (d : Int) (s : PS), s.ok L → mu L s + 3 ≤ f → Adv L s (rBlock L f d s).2
 eqs : ∀ (d : Int) (l : List Qu) (s : PS), s.ok L → mu L s + 2 ≤ f → Adv L s (rEqs L f d l s).2
 eq : ∀ (d : Int) (s : PS), s.ok L → mu L s + 1 ≤ f → Adv L s (rEq L f d s).2
 arms : ∀ (d : Int) (st : Bool) (s : PS), s.ok L → mu L s + 2 ≤ f → Adv L s (rArms L f d st s).2
 armL : ∀ (d : Int) (st : Bool) (l : List Am) (s : PS), s.ok L → mu L s + 1 ≤ f → Adv L s (rArmL L f d st l s).2
theorem want_mu {L : List Tk} (hL : TksOk L) {s : PS} (h : s.ok L) (w : Str) : mu L (s.want L w) + 16 ≤ mu L s ∨ mu L (s.want L w) = 0 := by
 by_cases h0 : s.k = 0
 ·exact .inl (mu_lt (want_adv hL h w) h h0 fun hk => by have := want_pr hk; omega)
 ·right
  rw [(want_adv hL h w).st h0]
  unfold mu; rw [if_neg h0]
theorem quL {L : List Tk} (hL : TksOk L) : ∀ f : Nat, QuL L f
 | 0 => ⟨fun _ _ _ h => by omega, fun _ _ _ _ h => by omega, fun _ _ _ h => by omega, fun _ _ _ _ h => by omega, fun _ _ _ _ _ h => by omega⟩
 | f + 1 => by
  have IH := quL hL f
  refine ⟨fun d s h hf => ?_, fun d l s h hf => ?_, fun d s h hf => ?_, fun d st s h hf => ?_, fun d st l s h hf => ?_⟩
  ·rw [rBlock]
   try simp only []
   have h1 := open_adv hL h d
   have h2 := locals_adv hL (d := d + 1) h1.ok
   have h3 := want_adv hL h2.ok wDo
   have m1 := mu_le (h1.trans h2)
   have m2 := want_mu hL h2.ok wDo
   exact ((h1.trans h2).trans h3).trans (IH.eqs (d + 1) [] _ h3.ok (by omega))
  ·rw [rEqs]
   try simp only []
   split
   ·rename_i h0
    have h0 : s.k = 0 := by simpa using h0
    split
    ·exact .refl h
    ·have h1 := IH.eq d s h (by omega)
     have h2 := want_adv hL h1.ok wSemi
     have m1 := mu_le h1
     have m2 := want_mu hL h1.ok wSemi
     have m3 : 16 ≤ mu L s := by have := h.lt; unfold mu; rw [if_pos h0]; omega
     exact (h1.trans h2).trans (IH.eqs d _ _ h2.ok (by omega))
   ·exact .refl h
  ·rw [rEq]
   try simp only []
   have nx : ∀ {w : Str}, s.is L w = true → Adv L s s.nx ∧ mu L s.nx + 16 ≤ mu L s := fun {w} hi => ⟨is_adv hL h hi, mu_nx hL h (is_of hi).1 (is_of hi).2.1⟩
   split
   ·rename_i hi
    obtain ⟨h1, m1⟩ := nx hi
    have h2 := (eX_adv hL (d := d) h1.ok).1
    have m2 := mu_le h2
    exact (h1.trans h2).trans (IH.arms d false _ h2.ok (by omega))
   split
   ·rename_i hi
    obtain ⟨h1, m1⟩ := nx hi
    exact h1.trans (IH.arms d true _ h1.ok (by omega))
   split
   ·rename_i hi
    obtain ⟨h1, m1⟩ := nx hi
    have h2 := IH.block d _ h1.ok (by omega)
    have h3 := want_adv hL h2.ok wEvery
    exact ((h1.trans h2).trans h3).trans (eX_adv hL h3.ok).1
   ·have h1 := lhs_adv hL h
    have h2 := want_adv hL h1.ok wEq
    exact (h1.trans h2).trans (right_adv hL h2.ok)
  ·rw [rArms]
   try simp only []
   have h1 := IH.armL d st [] s h (by omega)
   have h2 : Adv L (rArmL L f d st [] s).2 (if ((rArmL L f d st [] s).1.length == 0) = true then (rArmL L f d st [] s).2.here L 2 else (rArmL L f d st [] s).2) := by
    split
    ·exact here_adv hL h1.ok 2
    ·exact .refl h1.ok
   exact (h1.trans h2).trans (want_adv hL h2.ok wEnd)
  ·rw [rArmL]
   try simp only []
   split
   ·rename_i hi
    split
    ·exact here_adv hL h 3
    ·have h1 := want_adv hL h wBar
     have m1 := want_mu hL h wBar
     have m3 : 16 ≤ mu L s := by have := h.lt; unfold mu; rw [if_pos (is_of hi).1]; omega
     cases st with
     | true =>
      rw [if_pos rfl, if_pos rfl]
      have h2 := name_adv hL h1.ok (kd := 3) (by decide)
      have m2 := mu_le h2
      have h3 := IH.block d _ h2.ok (by omega)
      have m4 := mu_le h3
      have h4 := ways_adv hL (d := d) (w := wUnless) h3.ok
      have h5 := ways_adv hL (d := d) (w := wUntil) h4.ok
      have m5 := mu_le (h4.trans h5)
      exact ((h1.trans h2).trans (h3.trans (h4.trans h5))).trans (IH.armL d true _ _ h5.ok (by omega))
     | false =>
      rw [if_neg (by simp), if_neg (by simp)]
      have h2 := ctor_adv hL h1.ok
      have m2 := mu_le h2
      have h3 := IH.block d _ h2.ok (by omega)
      have m4 := mu_le h3
      exact ((h1.trans h2).trans h3).trans (IH.armL d false _ _ h3.ok (by omega))
   ·exact .refl h
section
variable {L : List Tk} (hL : TksOk L)
include hL
theorem eqsX_adv {d : Int} {s : PS} (h : s.ok L) : Adv L s (rEqs L (fq L) d [] s).2 := by
 have := mu_fx (L := L) (s := s)
 exact (quL hL (fq L)).eqs d [] s h (by unfold fq; omega)
theorem ctL_adv : ∀ (f : Nat) (l : List Str) (s : PS), s.ok L → Adv L s (rCtL L f l s).2
 | 0, l, s, h => .refl h
 | f + 1, l, s, h => by
  unfold rCtL
  split
  ·have h1 : Adv L s (if l.length == 32 then s.here L 3 else s) := by
     split
     ·exact here_adv hL h 3
     ·exact .refl h
   have h2 := name_adv hL h1.ok (kd := 3) (by decide)
   try simp only []
   generalize (if l.length == 32 then s.here L 3 else s) = s1 at *
   split
   ·rename_i hi
    have h3 := is_adv hL h2.ok hi
    exact ((h1.trans h2).trans h3).trans (ctL_adv f _ _ h3.ok)
   ·exact h1.trans h2
  ·exact .refl h
theorem enum_adv {s : PS} (h : s.ok L) : Adv L s (rEnum L s).2 := by
 have h1 := want_adv hL h wType
 have h2 := name_adv hL h1.ok (kd := 2) (by decide)
 have h3 := want_adv hL h2.ok wEq
 have h4 := ctL_adv hL (L.length + 1) [] _ h3.ok
 exact ((h1.trans h2).trans (h3.trans h4)).trans (want_adv hL h4.ok wSemi)
theorem node_adv {s : PS} (h : s.ok L) : Adv L s (rNode L s).2 := by
 have h1 := want_adv hL h wNode
 have h2 := name_adv hL h1.ok (kd := 2) (by decide)
 have h3 := want_adv hL h2.ok wOpen
 have h4 := params_adv hL (d := 0) h3.ok
 have h5 := want_adv hL h4.ok wShut
 have h6 := want_adv hL h5.ok wReturns
 have h7 := want_adv hL h6.ok wOpen
 have h8 := params_adv hL (d := 0) h7.ok
 have h9 := want_adv hL h8.ok wShut
 have ha := locals_adv hL (d := 0) h9.ok
 have hb := want_adv hL ha.ok wLet
 have hc := eqsX_adv hL (d := 0) hb.ok
 have hd := want_adv hL hc.ok wTel
 exact (((h1.trans h2).trans (h3.trans h4)).trans ((h5.trans h6).trans (h7.trans h8))).trans (((h9.trans ha).trans hb).trans (hc.trans hd))
end
end Go.Proofs.YtohgdopfjkjppaaGreatDoor
