/-
 One operation on values without addresses.
-/
-- halved
import Derived.Test.YthhhnfjcaicjnaaGreatDoorM2A
set_option linter.unusedVariables false
namespace Go.Proofs.YthhhnfjcaicjnaaGreatDoor
open Go Go.RowKit

structure TD where
 agg : Bool
 sz : Nat
 by_ : Nat
 zero : Value
def aggD : TypeDesc → Bool
 | .struct _ | .array _ _ => true
 | _ => false
def tdat (P : Program) (t : TypeId) : Option TD :=
 match P.info? t, P.underlying t with
 | some i, some d => match i.zero with
  | some z => if z.cells.size = i.size then some ⟨aggD d, i.size, i.bytes, z⟩ else none
  | none => none
 | _, _ => none
def tel (P : Program) (t : TypeId) : Option TypeId :=
 match P.underlying t with
 | some (.slice e) => some e
 | _ => none
def tflds (P : Program) (t : TypeId) : Option (List (Nat × Nat × Bool)) :=
 match P.underlying t with
 | some (.struct fs) => fs.toList.mapM fun f => (tdat P f.type).map fun d => (f.offset, d.sz, d.agg)
 | _ => none

def tarr (P : Program) (t : TypeId) : Option (Nat × TypeId) :=
 match P.underlying t with
 | some (.array n e) => some (n, e)
 | _ => none
def aflds : Nat → Nat → TD → List (Nat × Nat × Bool)
 | 0, _, _ => []
 | n + 1, o, d => (o, d.sz, d.agg) :: aflds n (o + d.sz) d
def aMeth (P : Program) (t : TypeId) (name : String) : Option FuncId :=
 match P.info? t, P.underlying t with
 | some i, some td => (match i.methods.find? (·.name == name) with
  | some m => if m.path.isEmpty then (match m.func with
   | some (g, ptr) => (match td, ptr with
    | .pointer _, true => some g
    | .pointer _, false => none
    | _, false => some g
    | _, true => none)
   | none => none) else none
  | none => none)
 | _, _ => none

def ofCell (x : Value) : PV := if atom x then .v x else match x with | .slice none 0 0 => .sl .full [] | _ => .junk
def ofV : Value → PV
 | .agg cs => if (cs.toList.map ofCell).all PV.one then .ag (cs.toList.map ofCell) else .junk
 | x => ofCell x
abbrev F := Nat → PV
def F.put (f : F) (d : Option Tmp) (v : PV) : F := match d with | some d => fun t => if t = d then v else f t | none => f
def ev (f : F) : Operand → PV
 | .tmp t => f t
 | .const v => ofV v
 | .global _ => .junk
 | .func g => .fn (.func g) [] []

inductive AR where
 | ok (pre : Prop) (v : PV) (m : M)
 | call (f : FuncId) (args : List PV)
 | pan (v : PV)
 | alt (p : Prop) (S : PV → M → Prop)
 | bad

def seg (l : List PV) (o n : Nat) : List PV := (l.drop o).take n
def splice (l : List PV) (o : Nat) (x : List PV) : List PV := l.take o ++ x ++ l.drop (o + x.length)
def partA (d : TD) (l : List PV) (o : Nat) : PV := if d.agg then .ag (seg l o d.sz) else l.getD o .junk

def aBool : PV → Option Bool
 | .v (.bool b) => some b
 | _ => none
def aInt : PV → Option Int
 | .v (.int _ n) => some n
 | _ => none
def intCmp : BinOp → Int → Int → Option Bool
 | .eql, x, y => some (x == y)
 | .neq, x, y => some (x != y)
 | .lss, x, y => some (decide (x < y))
 | .leq, x, y => some (decide (x ≤ y))
 | .gtr, x, y => some (decide (x > y))
 | .geq, x, y => some (decide (x ≥ y))
 | _, _, _ => none
def intAr (k : IntKind) : BinOp → Int → Int → Option (Prop × Int)
 | .add, x, y => some (True, k.wrap (x + y))
 | .sub, x, y => some (True, k.wrap (x - y))
 | .mul, x, y => some (True, k.wrap (x * y))
 | .quo, x, y => some (y ≠ 0, k.wrap (x.tdiv y))
 | .rem, x, y => some (y ≠ 0, x.tmod y)
 | _, _, _ => none
def eqCell : PV → PV → Option Bool
 | .v (.bool a), .v (.bool b) => some (a == b)
 | .v (.int k a), .v (.int k' b) => if k = k' then some (a == b) else none
 | .v (.string a), .v (.string b) => some (a.toList == b.toList)
 | _, _ => none
def eqCells : List PV → List PV → Option Bool
 | [], [] => some true
 | x :: l, y :: r => match eqCell x y, eqCells l r with
  | some a, some b => some (a && b)
  | _, _ => none
 | _, _ => none
inductive SK where
 | skb | ski | sks
 deriving DecidableEq
def skT : TypeDesc → Option SK
 | .bool => some .skb
 | .int _ => some .ski
 | .string => some .sks
 | _ => none
def skP : PV → Option SK
 | .v (.bool _) => some .skb
 | .v (.int _ _) => some .ski
 | .v (.string _) => some .sks
 | _ => none
def flat1 (P : Program) (t : TypeId) : Option (List SK) :=
 match P.underlying t with
 | some (.struct fs) => if !P.stoodInHeld t && !P.eqGuardType P.depth t && (fs.toList.zipIdx.all fun p => p.1.name != "_" && p.1.offset == p.2) then fs.toList.mapM fun f => (P.underlying f.type).bind skT else none
 | _ => none
def aBin (op : BinOp) (x y : PV) : Option (Prop × PV) :=
 match x, y with
 | .v (.int k a), .v (.int k' b) =>
  (match op with
  | .shl => some (0 ≤ b, .v (.int k (k.wrap (a * 2 ^ (min b.toNat k.bits)))))
  | .shr => some (0 ≤ b, .v (.int k (a.fdiv (2 ^ (min b.toNat k.bits)))))
  | _ => if k = k' then (match intAr k op a b with
   | some (p, n) => some (p, .v (.int k n))
   | none => (intCmp op a b).map fun c => (True, .v (.bool c))) else none)
 | .v (.string a), .v (.string b) =>
  (match op with
  | .add => some (((a.size + b.size : Nat) : Int) ≤ 9223372036854775807, .v (.string (a ++ b)))
  | .eql => some (True, .v (.bool (a.toList == b.toList)))
  | .neq => some (True, .v (.bool !(a.toList == b.toList)))
  | .lss => some (True, .v (.bool (Op.bytesLess a.toList b.toList)))
  | _ => none)
 | .v (.bool a), .v (.bool b) =>
  (match op with
  | .eql => some (True, .v (.bool (a == b)))
  | .neq => some (True, .v (.bool !(a == b)))
  | _ => none)
 | _, _ => none

def PV.isV : PV → Bool
 | .v _ => true
 | _ => false
def elems (m : M) : PV → Option (List PV)
 | .sl _ ys => some ys
 | .v (.string s) => some (s.data.toList.map fun b => .v (.int .u8 b.toNat))
 | .bs id off len => match m.get id with
  | some c => if off + len ≤ c.length ∧ ((c.drop off).take len).all PV.isV = true then some ((c.drop off).take len) else none
  | none => none
 | _ => none
def Own.free (o : Own) (m : M) (s : Nat) : Prop := match o with | .no => False | .full => True | .tok t => m.alive t s
def Own.use (o : Own) (m : M) : M := match o with | .tok t => m.kill t | _ => m

def okSrc (y : PV) (td : TypeDesc) (s : Nat) : Bool := match y, td with
 | .sl _ _, .slice _ => true
 | .bs _ _ _, .slice _ => s == 1
 | .v _, .string => s == 1
 | _, _ => false

def aBuiltin (P : Program) (b : Builtin) (ts : Array TypeId) (args : List PV) (m : M) : AR :=
 match b, args with
 | .len, [.v (.string s)] => .ok (ts.toList.map (P.underlying ·) = [some .string]) (.v (.int .i64 s.size)) m
 | .len, [.sl _ xs] => (match ts.toList.map (tel P ·) with | [some _] => .ok True (.v (.int .i64 xs.length)) m | _ => .bad)
 | .len, [.bs _ _ n] => (match ts.toList.map (tel P ·) with | [some _] => .ok True (.v (.int .i64 n)) m | _ => .bad)
 | .max, [.v (.int k a), .v (.int _ b)] => .ok True (.v (.int k (if b > a then b else a))) m
 | .min, [.v (.int k a), .v (.int _ b)] => .ok True (.v (.int k (if b < a then b else a))) m
 | .append, [.sl o xs, y] =>
  (match ts.toList, elems m y with
  | [t, t'], some ys =>
   (match tel P t with
   | some e =>
    (match tdat P e, P.underlying t' with
    | some d, some td =>
     if okSrc y td d.sz then
      .ok (o.free m d.sz ∧ (∀ x ∈ xs, x.cells.length = d.sz) ∧ (∀ x ∈ ys, x.cells.length = d.sz) ∧ xs.length + ys.length ≤ maxLen ∧ (xs.length + ys.length) * d.by_ ≤ 140737488355328)
       (.sl (.tok m.nt) (xs ++ ys)) ((o.use m).fresh d.sz)
     else .bad
    | _, _ => .bad)
   | none => .bad)
  | _, _ => .bad)
 | _, _ => .bad

def fillA (fl : List (Nat × Nat × Bool)) : List (Nat × PV) → List PV → List PV
 | [], l => l
 | (i, x) :: r, l => fillA fl r (splice l (fl.getD i (0, 0, false)).1 x.cells)
def fillOk (fl : List (Nat × Nat × Bool)) (n : Nat) : List (Nat × PV) → Prop
 | [] => True
 | (i, x) :: r => (i < fl.length ∧ x.cells.length = (fl.getD i (0, 0, false)).2.1 ∧ (fl.getD i (0, 0, false)).1 + x.cells.length ≤ n ∧ x.cells.all PV.one = true) ∧ fillOk fl n r

def loOf (f : F) : Option Operand → Option Int
 | none => some 0
 | some l => aInt (ev f l)
def hiOf (f : F) (n : Nat) : Option Operand → Option Int
 | none => some n
 | some h => aInt (ev f h)
def needB (P : Program) (op : BinOp) (x : PV) (t : TypeId) : Prop :=
 match op, x with
 | .eql, .v (.bool _) | .neq, .v (.bool _) => P.underlying t = some .bool
 | _, _ => True

def bytesOf : List PV → Option (List Int)
 | [] => some []
 | .v (.int .u8 n) :: l => (bytesOf l).map (n :: ·)
 | _ => none
def strOf (ns : List Int) : ByteArray := ns.foldl (fun r n => r.push (UInt8.ofNat n.toNat)) ByteArray.empty
def eltB (P : Program) (s : TypeId) : Option TypeDesc := match tel P s with
 | some e => P.underlying e
 | none => none

inductive NK where
 | nki | nkf | nkp
 deriving DecidableEq
def nilK : PV → Option (NK × Bool)
 | .ifc _ _ => some (.nki, false)
 | .v .nilIface => some (.nki, true)
 | .fn (.func _) _ _ => some (.nkf, false)
 | .v .nilFunc => some (.nkf, true)
 | .ep _ => some (.nkp, false)
 | .bp _ _ => some (.nkp, false)
 | .v (.pointer none) => some (.nkp, true)
 | _ => none
def nkT (P : Program) (t : TypeId) : Option NK := match P.underlying t with
 | some (.interface _) => some .nki
 | some (.func _ _ _) => some .nkf
 | some (.pointer _) => some .nkp
 | _ => none
def cstO : Operand → Bool
 | .const _ => true
 | _ => false
def eqNil (a b : PV) : Option (NK × Bool) :=
 match a, b with
 | .ifc t _, .ifc u _ => if t = u then none else some (.nki, false)
 | a, b => match nilK a, nilK b with
  | some (k, x), some (k', y) => if k = k' && (x || y) then some (k, x && y) else none
  | _, _ => none
def isNilS : Operand → Bool
 | .const (.slice none 0 0) => true
 | _ => false
def sliceT (P : Program) (t : TypeId) : Bool := match P.underlying t with
 | some (.slice _) => true
 | _ => false
def aNil (P : Program) (op : BinOp) (t : TypeId) (x y : Operand) (a b : PV) (m : M) : AR :=
 match op, eqNil a b with
 | .eql, some (k, c) => .ok (nkT P t = some k ∧ (c = true → (cstO x || cstO y) = true)) (.v (.bool c)) m
 | .neq, some (k, c) => .ok (nkT P t = some k ∧ (c = true → (cstO x || cstO y) = true)) (.v (.bool !c)) m
 | _, _ => .bad

def aStep0 (P : Program) (mu : Bool) (op : Op) (f : F) (m : M) : AR :=
 match op with
 | .move x | .assign x => .ok True (ev f x) m
 | .pick c a b => (match ev f c with | .v (.bool t) => .ok True (if t then ev f a else ev f b) m | _ => .bad)
 | .box _ x =>
  let y := ev f x
  if mu then .ok (y.cells.all PV.one = true) (.bp m.nb 0) (m.push y.cells)
  else .ok (y.settle.ok = true) (.ep y.settle.cells) m
 | .alloc e =>
  (match tdat P e with
  | some d =>
   let y := ofV d.zero
   if mu then .ok (y.cells.all PV.one = true) (.bp m.nb 0) (m.push y.cells)
   else .ok (y.settle.ok = true) (.ep y.settle.cells) m
  | none => .bad)
 | .build t parts =>
  (match tflds P t, tdat P t with
  | some fl, some d => .ok ((ofV d.zero).cells.all PV.one = true ∧ fillOk fl (ofV d.zero).cells.length (parts.toList.map fun p => (p.1, ev f p.2))) (.ag (fillA fl (parts.toList.map fun p => (p.1, ev f p.2)) (ofV d.zero).cells)) m
  | none, some d => (match tarr P t with
   | some (n, e) => (match tdat P e with
    | some de => .ok ((ofV d.zero).cells.all PV.one = true ∧ fillOk (aflds n 0 de) (ofV d.zero).cells.length (parts.toList.map fun p => (p.1, ev f p.2))) (.ag (fillA (aflds n 0 de) (parts.toList.map fun p => (p.1, ev f p.2)) (ofV d.zero).cells)) m
    | none => .bad)
   | none => .bad)
  | _, _ => .bad)
 | .buildSlice t n parts =>
  (match tel P t with
  | some e => (match tdat P e with
   | some d =>
    let ys := parts.toList.map fun p => (ev f p.2)
    if mu then
     .ok (parts.toList.map (·.1) = List.range n ∧ (n ≤ 16777216 ∧ n * d.sz ≤ 16777216) ∧ (∀ y ∈ ys, y.cells.length = d.sz ∧ y.cells.all PV.one = true)) (.bs m.nb 0 n) (m.push (ys.flatMap PV.cells))
    else .ok (parts.toList.map (·.1) = List.range n ∧ (n ≤ 16777216 ∧ n * d.sz ≤ 16777216) ∧ (∀ y ∈ ys, y.cells.length = d.sz ∧ y.settle.ok = true)) (.sl .full (ys.map PV.settle)) m
   | none => .bad)
  | none => .bad)
 | .load t a =>
  (match tdat P t, ev f a with
  | some d, .ep xs => .ok (if d.agg then d.sz ≤ xs.length else 0 < xs.length) (partA d xs 0) m
  | some d, .bp id o => (match m.get id with
   | some c => .ok (if d.agg then o + d.sz ≤ c.length else o < c.length) (partA d c o) m
   | none => .bad)
  | _, _ => .bad)
 | .store t a x =>
  (match tdat P t, ev f a with
  | some d, .bp id o => (match m.get id with
   | some c => .ok ((ev f x).cells.length = d.sz ∧ o + d.sz ≤ c.length ∧ (ev f x).cells.all PV.one = true) (.tp []) (m.upd id (splice c o (ev f x).cells))
   | none => .bad)
  | _, _ => .bad)
 | .nilCheck x => (match ev f x with
  | .bp id o => .ok True (.bp id o) m
  | .ep xs => .ok True (.ep xs) m
  | .fn (.func g) a b => .ok True (.fn (.func g) a b) m
  | _ => .bad)
 | .binOp op t x y _ =>
  (match aBin op (ev f x) (ev f y) with
  | some (p, r) => .ok (p ∧ needB P op (ev f x) t) r m
  | none => (match op, ev f x, ev f y with
   | .eql, .ag a, .ag b => (match eqCells a b with | some c => .ok ((flat1 P t).map (·.map some) = some (a.map skP)) (.v (.bool c)) m | none => .bad)
   | .neq, .ag a, .ag b => (match eqCells a b with | some c => .ok ((flat1 P t).map (·.map some) = some (a.map skP)) (.v (.bool !c)) m | none => .bad)
   | .eql, .bs _ _ _, _ => if isNilS y = true then .ok (sliceT P t = true) (.v (.bool false)) m else .bad
   | op, a, b => aNil P op t x y a b m))
 | .unOp op _ x => (match op, ev f x with
  | .not, .v (.bool b) => .ok True (.v (.bool !b)) m
  | .neg, .v (.int k n) => .ok True (.v (.int k (k.wrap (0 - n)))) m
  | _, _ => .bad)
 | .convert s d x => (match P.underlying d, ev f x with
  | some (.int k), .v (.int _ n) => .ok ((P.underlying s).isSome = true) (.v (.int k (k.wrap n))) m
  | some .string, .sl _ xs => (match bytesOf xs with
   | some ns => .ok (eltB P s = some (.int .u8)) (.v (.string (strOf ns))) m
   | none => .bad)
  | _, _ => .bad)
 | .fieldAddr t x i => (match tflds P t, ev f x with
  | some fl, .ep xs => (match fl[i]? with | some (o, n, _) => .ok (n ≠ 0 ∧ o ≤ xs.length) (.ep (xs.drop o)) m | none => .bad)
  | some fl, .bp id o' => (match fl[i]? with | some (o, n, _) => .ok (n ≠ 0) (.bp id (o' + o)) m | none => .bad)
  | _, _ => .bad)
 | .field t x i => (match tflds P t, ev f x with
  | some fl, .ag xs => (match fl[i]? with | some (o, n, a) => .ok (if a then o + n ≤ xs.length else o < xs.length) (if a then .ag (seg xs o n) else xs.getD o .junk) m | none => .bad)
  | _, _ => .bad)
 | .indexAddr t x i => (match tel P t, ev f x, ev f i with
  | some e, .sl _ xs, .v (.int _ n) => .ok (0 ≤ n ∧ n.toNat < xs.length ∧ (tdat P e).map (·.sz) = some (xs.getD n.toNat .junk).cells.length) (.ep (xs.getD n.toNat .junk).cells) m
  | some e, .bs id o l, .v (.int _ n) => (match tdat P e with | some d => .ok (0 ≤ n ∧ n.toNat < l) (.bp id (o + n.toNat * d.sz)) m | none => .bad)
  | none, .ep xs, .v (.int _ n) => (match tarr P t with
   | some (l, e) => (match tdat P e with | some d => .ok (0 ≤ n ∧ n.toNat < l ∧ n.toNat * d.sz ≤ xs.length) (.ep (xs.drop (n.toNat * d.sz))) m | none => .bad)
   | none => .bad)
  | none, .bp id o, .v (.int _ n) => (match tarr P t with
   | some (l, e) => (match tdat P e with | some d => .ok (0 ≤ n ∧ n.toNat < l) (.bp id (o + n.toNat * d.sz)) m | none => .bad)
   | none => .bad)
  | _, _, _ => .bad)
 | .index t x i => (match P.underlying t, ev f x, ev f i with
  | some .string, .v (.string s), .v (.int _ n) => .ok (0 ≤ n ∧ n.toNat < s.size) (.v (.int .u8 (s.data.toList.getD n.toNat 0).toNat)) m
  | some (.array l e), .ag xs, .v (.int _ n) => (match tdat P e with
   | some d => .ok (0 ≤ n ∧ n.toNat < l ∧ (if d.agg then n.toNat * d.sz + d.sz ≤ xs.length else n.toNat * d.sz < xs.length)) (if d.agg then .ag (seg xs (n.toNat * d.sz) d.sz) else xs.getD (n.toNat * d.sz) .junk) m
   | none => .bad)
  | _, _, _ => .bad)
 | .slice t x lo hi mx => (match P.underlying t, ev f x, mx with
  | some .string, .v (.string s), none =>
   (match loOf f lo, hiOf f s.size hi with
   | some l, some h => .ok (0 ≤ l ∧ l ≤ h ∧ h ≤ s.size) (.v (.string (s.extract l.toNat h.toNat))) m
   | _, _ => .bad)
  | some (.slice e), .sl o xs, none =>
   (match loOf f lo, hiOf f xs.length hi with
   | some l, some h => .ok (0 ≤ l ∧ l ≤ h ∧ h ≤ xs.length ∧ ∃ d, tdat P e = some d ∧ ∀ x ∈ xs, x.cells.length = d.sz) (.sl (match hi with | none => o | some _ => .no) ((xs.take h.toNat).drop l.toNat)) m
   | _, _ => .bad)
  | _, _, _ => .bad)
 | .extract x i => (match ev f x with
  | .tp xs => .ok (i < xs.length) (xs.getD i .junk) m
  | _ => .bad)
 | .makeFunc g a b => .ok True (.fn g (a.toList.map (ev f)) (b.toList.map (ev f))) m
 | .makeInterface t x => (match P.underlying t with
  | some (.interface _) => .bad
  | some _ => .ok True (.ifc t (ev f x)) m
  | none => .bad)
 | .typeAssert x _ t ok => (match P.underlying t, tdat P t, ev f x with
  | some (.interface _), _, _ => .bad
  | some _, some d, .ifc u y => if u = t then .ok True (if ok then .tp [y, .v (.bool true)] else y) m else if ok then .ok True (.tp [ofV d.zero, .v (.bool false)]) m else .bad
  | some _, some d, .v .nilIface => if ok then .ok True (.tp [ofV d.zero, .v (.bool false)]) m else .bad
  | _, _, _ => .bad)
 | .panic x => (match ev f x with
  | .ifc t y => .pan (.ifc t y)
  | _ => .bad)
 | .call c => (match c.callee with
  | .builtin b => aBuiltin P b c.argTypes (c.args.toList.map (ev f)) m
  | .value g => (match ev f g with
   | .fn (.func h) a b => .call h (a ++ c.args.toList.map (ev f) ++ b)
   | _ => .bad)
  | .invoke r nm => (match ev f r with
   | .ifc t x => (match aMeth P t nm with
    | some g => .call g (x :: c.args.toList.map (ev f))
    | none => .bad)
   | _ => .bad))
 | _ => .bad
def gSrc (m : M) (y : PV) (sz : Nat) : Option (Prop × Nat × List PV) := match y with
 | .sl _ ys => some (∀ x ∈ ys, x.cells.length = sz, ys.length, ys.flatMap PV.cells)
 | .bs id off len => (match m.get id with | some c => some (off + len * sz ≤ c.length, len, (c.drop off).take (len * sz)) | none => none)
 | .gs id len _ => (match m.get id with | some c => some (len * sz ≤ c.length, len, c.take (len * sz)) | none => none)
 | _ => none
def growS (m : M) (id len sz k : Nat) (c new : List PV) (v : PV) (m' : M) : Prop :=
 ∃ (id' cap' : Nat) (c' : List PV), v = .gs id' (len + k) cap' ∧ len + k ≤ cap' ∧ c'.length = cap' * sz ∧ c'.take ((len + k) * sz) = c.take (len * sz) ++ new ∧ (∀ x ∈ c'.drop ((len + k) * sz), x = .junk ∨ x ∈ c) ∧ ((id' = id ∧ m' = m.upd id c') ∨ (id' = m.nb ∧ m' = m.push c'))
def growN (m : M) (sz k : Nat) (new : List PV) (v : PV) (m' : M) : Prop :=
 (k = 0 ∧ v = .sl .full [] ∧ m' = m) ∨ (0 < k ∧ ∃ (cap' : Nat) (c' : List PV), v = .gs m.nb k cap' ∧ k ≤ cap' ∧ c'.length = cap' * sz ∧ c'.take (k * sz) = new ∧ (∀ x ∈ c'.drop (k * sz), x = .junk) ∧ m' = m.push c')
def isSlT : TypeDesc → Bool
 | .slice _ => true
 | _ => false
def gApp (P : Program) (t t' : TypeId) (id len cap : Nat) (y : PV) (m : M) : AR := match tel P t, P.underlying t' with
 | some e, some td => (match tdat P e with
  | some d => (match m.get id, gSrc m y d.sz with
   | some c, some (p, k, new) => if isSlT td then .alt ((c.length = cap * d.sz ∧ len ≤ cap ∧ (ofV d.zero).cells.all PV.one = true) ∧ p ∧ len + k ≤ maxLen ∧ (len + k) * d.by_ ≤ 140737488355328) (growS m id len d.sz k c new) else .bad
   | _, _ => .bad)
  | none => .bad)
 | _, _ => .bad
def gAppN (P : Program) (t t' : TypeId) (y : PV) (m : M) : AR := match tel P t, P.underlying t' with
 | some e, some td => (match tdat P e with
  | some d => (match gSrc m y d.sz with
   | some (p, k, new) => if isSlT td then .alt ((ofV d.zero).cells.all PV.one = true ∧ p ∧ k ≤ maxLen ∧ k * d.by_ ≤ 140737488355328) (growN m d.sz k new) else .bad
   | none => .bad)
  | none => .bad)
 | _, _ => .bad
def gBu (P : Program) (mu : Bool) (b : Builtin) (ts : List TypeId) (args : List PV) (m : M) : Option AR := match b, args with
 | .len, [.gs _ n _] => some (match ts with | [t] => .ok (∃ e, tel P t = some e) (.v (.int .i64 n)) m | _ => .bad)
 | .append, [.gs id len cap, y] => some (match ts with | [t, t'] => gApp P t t' id len cap y m | _ => .bad)
 | .append, [.sl o xs, y] => if mu then some (match o, xs, ts with | .full, [], [t, t'] => gAppN P t t' y m | _, _, _ => .bad) else none
 | _, _ => none
def gIx (P : Program) (t : TypeId) (x i : PV) (m : M) : Option AR := match x with
 | .gs id len cap => some (match i, tel P t with
  | .v (.int _ n), some e => (match tdat P e with | some d => .ok (0 ≤ n ∧ n.toNat < len) (.bp id (n.toNat * d.sz)) m | none => .bad)
  | _, _ => .bad)
 | _ => none
def gSl (P : Program) (t : TypeId) (x : PV) (lo : Option Operand) (hi : Option (Option Int)) (mx : Option Operand) (m : M) : Option AR := match x with
 | .gs id len cap => some (match lo, hi, mx, tel P t with
  | none, some (some h), none, some e => .ok (0 ≤ h ∧ h.toNat ≤ len ∧ 0 < len ∧ (tdat P e).isSome = true) (.gs id h.toNat cap) m
  | _, _, _, _ => .bad)
 | _ => none
def gMk (P : Program) (t : TypeId) (l c : PV) (m : M) : AR := match tel P t, l, c with
 | some e, .v (.int .i64 n), .v (.int .i64 n') => (match tdat P e with
  | some d => .ok ((0 ≤ n ∧ n' = n ∧ n ≤ maxLen ∧ d.by_ * n ≤ 140737488355328) ∧ d.sz = 1 ∧ (ofV d.zero).one = true ∧ d.zero.cells = #[d.zero]) (.bs m.nb 0 n.toNat) (m.push (List.replicate n.toNat (ofV d.zero)))
  | none => .bad)
 | _, _, _ => .bad
def gNil (P : Program) (op : BinOp) (t : TypeId) (x : PV) (m : M) : Option AR := match op, x with
 | .eql, .sl o xs => some (.alt (sliceT P t = true) (fun v m' => ∃ b, v = .v (.bool b) ∧ (b = true → xs = []) ∧ m' = m))
 | _, _ => none
def aGrow (P : Program) (mu : Bool) (op : Op) (f : F) (m : M) : Option AR := match op with
 | .makeSlice t l c => some (if mu then gMk P t (ev f l) (ev f c) m else .bad)
 | .indexAddr t x i => gIx P t (ev f x) (ev f i) m
 | .binOp op t x y _ => if isNilS y then gNil P op t (ev f x) m else none
 | .slice t x lo hi mx => gSl P t (ev f x) lo (hi.map fun h => aInt (ev f h)) mx m
 | .call c => (match c.callee with
  | .builtin b => gBu P mu b c.argTypes.toList (c.args.toList.map (ev f)) m
  | _ => none)
 | _ => none
def aOr (o : Option AR) (r : AR) : AR := match o with
 | some x => x
 | none => r
def aStep (P : Program) (mu : Bool) (op : Op) (f : F) (m : M) : AR := aOr (aGrow P mu op f m) (aStep0 P mu op f m)
end Go.Proofs.YthhhnfjcaicjnaaGreatDoor
