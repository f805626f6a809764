/-
  Texts that belong together: CeRunD, CeRun1, CeRun2, CeNum.
-/
import Derived.Test.YtepjjgnkhcjpcaaCeG0
import Derived.Test.YtepjjgnkhcjpcaaCeEx
import Derived.Test.YtepjjgnkhcjpcaaCeLayM
import Derived.Test.YtepjjgnkhcjpcaaAbKit
import Derived.Test.YtepjjgnkhcjpcaaAbEx
import Derived.WalkKit
import Derived.WalkSpells
import Derived.WalkLawsBesides
import Derived.Lib.Hide
import Derived.Deep.Light
/-
  What a run of clite does, in plain Lean: the evaluator.
-/
set_option linter.unusedVariables false
set_option linter.unusedSimpArgs false
namespace Go.Proofs.Ytepjjgnkhcjpcaa
open Go

/-- A statement: kind, name, part, expression, then, else, arguments, what comes out. -/
inductive CS where
  | mk (kind : Int) (name part : Str) (e : CE) (thn els : List CS) (args : List CE) (outs : List Str)
/-- A function. -/
structure CFn where
  name : Str
  self : Str
  ins : List Str
  outs : List Str
  locals : List Str
  body : List CS
/-- The memory, what was touched, the fuel that is left. -/
structure CM where
  mem : List Int
  tch : List Bool
  left : Nat
abbrev Env := List (Str × Int)
def Env.find (v : Env) (s : Str) : Option Int := (v.find? fun x => x.1.toList == s.toList).map (·.2)
/-- A run goes on, or it ends in a way. -/
inductive CRn (α : Type) where
  | ok (a : α) (m : CM)
  | bad (how : Nat) (m : CM)
def CRn.bind {α β : Type} (r : CRn α) (k : α → CM → CRn β) : CRn β := match r with
  | .ok a m => k a m
  | .bad h m => .bad h m
/-- One step more. -/
def stepC (m : CM) : CRn Unit := if m.left < 1 then .bad 4 m else .ok () { m with left := m.left - 1 }
/-- The cell of a field: touched. -/
def cellC (L : List Sr) (self : Str) (base : Int) (field : Str) (m : CM) : CRn Nat :=
  let n := (offsetF L self field).1
  let at_ := IntKind.i64.wrap (base + n)
  if n < 0 ∨ ((offsetF L self field).2.toList == (⟨#[]⟩ : ByteArray).toList) = false ∨ at_ < 0 ∨ at_ ≥ m.mem.length then .bad 2 m
  else .ok at_.toNat { m with tch := m.tch.set at_.toNat true }
section
variable (un : Int → Int → Int) (bin : Int → Int → Int → Int) (L : List Sr) (self : Str) (base : Int) (env : Env)
/-- An expression's value. -/
def evalC : CE → CM → CRn Int
  | .mk kind op n name kids, m => (stepC m).bind fun _ m =>
    if kind = 1 then (match kids with | [] => .ok n m | _ => .bad 6 m)
    else if kind = 2 then (match kids with | [] => (match env.find name with | some x => .ok x m | none => .bad 3 m) | _ => .bad 6 m)
    else if kind = 3 then (match kids with | [] => (cellC L self base name m).bind fun k m => .ok (m.mem.getD k 0) m | _ => .bad 6 m)
    else if kind = 4 then (match kids with | [a] => (evalC a m).bind fun x m => .ok (un op x) m | _ => .bad 6 m)
    else if kind = 5 then (match kids with | [a, b] => (evalC a m).bind fun x m => (evalC b m).bind fun y m => .ok (bin op x y) m | _ => .bad 6 m)
    else if kind = 6 then (match kids with | [a, b, c] => (evalC a m).bind fun x m => if x ≠ 0 then evalC b m else evalC c m | _ => .bad 6 m)
    else .bad 6 m
/-- Arguments. -/
def argsC : List CE → CM → CRn (List Int)
  | [], m => .ok [] m
  | e :: l, m => (evalC un bin L self base env e m).bind fun x m => (argsC l m).bind fun r m => .ok (x :: r) m
end
def Env.put : Env → Str → Int → Env
  | [], s, x => [(s, x)]
  | (k, y) :: v, s, x => if k.toList == s.toList then (k, x) :: v else (k, y) :: Env.put v s x
def Env.puts : Env → List Str → List Int → Env
  | v, s :: l, x :: r => Env.puts (v.put s x) l r
  | v, _, _ => v
def outsC (env : Env) : List Str → CM → CRn (List Int)
  | [], m => .ok [] m
  | s :: l, m => match env.find s with
    | none => .bad 3 m
    | some x => (outsC env l m).bind fun r m => .ok (x :: r) m
def findF (fns : List CFn) (s : Str) : Int := idxF (fun f => f.name.toList == s.toList) fns 0
def noFn : CFn := ⟨⟨#[]⟩, ⟨#[]⟩, [], [], [], []⟩
section
variable (un : Int → Int → Int) (bin : Int → Int → Int → Int) (L : List Sr) (fns : List CFn) (call : Str → Int → List Int → CM → CRn (List Int)) (self : Str) (base : Int)
/-- A function is called with a part. -/
def callC (name part : Str) (args : List CE) (outs : List Str) (env : Env) (m : CM) : CRn Env :=
  let n := (offsetF L self part).1
  let p := (offsetF L self part).2
  let i := findF fns name
  if n < 0 ∨ (p.toList == (⟨#[]⟩ : ByteArray).toList) = true then .bad 2 m
  else if i < 0 ∨ ((fns.getD i.toNat noFn).self.toList == p.toList) = false ∨ (fns.getD i.toNat noFn).outs.length ≠ outs.length then .bad 1 m
  else (argsC un bin L self base env args m).bind fun xs m => (call name (IntKind.i64.wrap (base + n)) xs m).bind fun ys m => .ok (env.puts outs ys) m
mutual
/-- A statement. -/
def stC : CS → Env → CM → CRn Env
  | .mk kind name part e thn els args outs, env, m => (stepC m).bind fun _ m =>
    if kind = 1 then (evalC un bin L self base env e m).bind fun x m => .ok (env.put name x) m
    else if kind = 2 then (evalC un bin L self base env e m).bind fun x m => (cellC L self base name m).bind fun k m => .ok env { m with mem := m.mem.set k x }
    else if kind = 3 then (evalC un bin L self base env e m).bind fun x m => if x ≠ 0 then stsC thn env m else stsC els env m
    else if kind = 4 then callC un bin L fns call self base name part args outs env m
    else .bad 6 m
/-- Statements, one behind the other. -/
def stsC : List CS → Env → CM → CRn Env
  | [], env, m => .ok env m
  | s :: l, env, m => (stC s env m).bind fun env m => stsC l env m
end
end
/-- A function is called: within as many calls as may be. -/
def mcallC (un : Int → Int → Int) (bin : Int → Int → Int → Int) (L : List Sr) (fns : List CFn) : Nat → Str → Int → List Int → CM → CRn (List Int)
  | 0, name, base, xs, m => if findF fns name < 0 ∨ xs.length ≠ (fns.getD (findF fns name).toNat noFn).ins.length then .bad 1 m else .bad 5 m
  | d + 1, name, base, xs, m => if findF fns name < 0 ∨ xs.length ≠ (fns.getD (findF fns name).toNat noFn).ins.length then .bad 1 m
    else (stsC un bin L fns (mcallC un bin L fns d) (fns.getD (findF fns name).toNat noFn).self base (fns.getD (findF fns name).toNat noFn).body (Env.puts [] (fns.getD (findF fns name).toNat noFn).ins xs) m).bind fun env m => outsC env (fns.getD (findF fns name).toNat noFn).outs m
mutual
def CS.pv : CS → PV
  | .mk kind name part e thn els args outs => .ag ([.v (.int .u8 kind), .v (.string name), .v (.string part)] ++ e.cs ++ [.sl .no (CS.pvs thn), .sl .no (CS.pvs els), .sl .no (args.map CE.pv), .sl .no (outs.map fun s => .v (.string s))])
def CS.pvs : List CS → List PV
  | [] => []
  | s :: l => s.pv :: CS.pvs l
end
theorem CS.pvs_eq (l : List CS) : CS.pvs l = l.map CS.pv := by
  induction l with
  | nil => rfl
  | cons e l ih => simp [CS.pvs, ih]
abbrev pSL (l : List Str) : PV := .sl .no (l.map fun s => .v (.string s))
namespace CS
def kind : CS → Int | .mk k _ _ _ _ _ _ _ => k
def name : CS → Str | .mk _ k _ _ _ _ _ _ => k
def part : CS → Str | .mk _ _ k _ _ _ _ _ => k
def e : CS → CE | .mk _ _ _ k _ _ _ _ => k
def thn : CS → List CS | .mk _ _ _ _ k _ _ _ => k
def els : CS → List CS | .mk _ _ _ _ _ k _ _ => k
def args : CS → List CE | .mk _ _ _ _ _ _ k _ => k
def outs : CS → List Str | .mk _ _ _ _ _ _ _ k => k
end CS
/-- The cells of a statement. -/
def CS.cs (s : CS) : List PV := [.v (.int .u8 s.kind), .v (.string s.name), .v (.string s.part), .v (.int .u8 s.e.kind), .v (.int .u8 s.e.op), .v (.int .i32 s.e.n), .v (.string s.e.name), .sl .no (s.e.kids.map CE.pv), .sl .no (s.thn.map CS.pv), .sl .no (s.els.map CS.pv), .sl .no (s.args.map CE.pv), pSL s.outs]
theorem CS.pv_eq (s : CS) : s.pv = .ag s.cs := by cases s; simp [CS.pv, CS.cs, CE.cs, CS.pvs_eq, CS.kind, CS.name, CS.part, CS.e, CS.thn, CS.els, CS.args, CS.outs]
theorem CS.cells_pv (s : CS) : s.pv.cells = s.cs := by rw [s.pv_eq]; rfl
theorem CS.settle_pv (s : CS) : s.pv.settle = s.pv := by cases s; rw [CS.pv_eq]; rfl
theorem CS.pure_pv (s : CS) : s.pv.pure = true := by cases s; rw [CS.pv_eq]; rfl
def CFn.cs (f : CFn) : List PV := [.v (.string f.name), .v (.string f.self), pSL f.ins, pSL f.outs, pSL f.locals, .sl .no (f.body.map CS.pv)]
def CFn.pv (f : CFn) : PV := .ag f.cs
theorem CFn.cells_pv (f : CFn) : f.pv.cells = f.cs := rfl
end Go.Proofs.Ytepjjgnkhcjpcaa

/-
  The frame's step.
-/
set_option linter.unusedVariables false
set_option linter.unusedSimpArgs false
namespace Go.Proofs.Ytepjjgnkhcjpcaa
open Nat renaming reduceEqDiff → jA, reduceAdd → jB, reduceMul → jC, reduceLT → jD, reduceLeDiff → jE, reduceBEq → jF, reduceBNe → jG
open Int renaming reduceLE → jH, reduceLT → jI, reduceToNat → jJ, reduceEq → jK
open Go
set_option maxRecDepth 20000
-- TNAMES: int; uint8; int32; string; bool; *int; clite.Func; clite.frame; *clite.frame; clite.fault; map[string]int32
set_option linter.defProp false
def tfCeRun1 := And.intro @tfA (And.intro @Ex.settle_pv (And.intro @Ex.pure_pv (And.intro @Ex.cells_pv (And.intro @Ex.cs.eq_1 (And.intro @On.pv.eq_1 (And.intro @Ty.pv.eq_1 (And.intro @Va.settle_pv (And.intro @Va.pure_pv (And.intro @Va.cells_pv @Va.cs.eq_1)))))))))

def faultPV (how : Nat) : PV := .ifc 88 (.ag [.v (.int .u8 how)])
theorem leave_upd {m : M} {id : Nat} {c : List PV} {v : PV} {R : PV → M → Prop} (hc : PV.pures c = true) (hv : v.settle.pure = true) (hR : R v.settle (m.upd id c)) : ∃ v' m', Leave m (m.upd id c) v v' m' ∧ R v' m' := by
  refine ⟨_, _, .upd v (m.upd id c) (by simp [M.upd, M.nb]) ?_ ?_ (Nat.le_refl _) (fun k x hx => ?_) hv, hR⟩
  · have h : (m.upd id c).boxes.length = m.nb := by simp [M.upd, M.nb]
    rw [← h, List.take_length]
  · show (m.upd id c).toks.take (m.upd id c).toks.length = _
    rw [List.take_length]
  · rw [M.get_upd] at hx
    split at hx
    · cases hx; exact .inr hc
    · exact .inl hx
set_option maxHeartbeats 1000000 in
theorem step_any (m : M) (fid lid eid mid : Nat) (fc : List PV) (base deep : Int) (left : Nat) (hfc : fc.length = 6) (hl63 : left < 2 ^ 62)
    (a1 a2 a3 a4 a5 a6 : PV) (he : fc = [a1, a2, a3, a4, a5, a6]) (hf : m.get fid = some [.bp mid 0, a1, a2, a3, a4, a5, a6, .v (.int .i64 base), .mp eid, .bp lid 0, .v (.int .i64 deep)]) (hl : m.get lid = some [.v (.int .i64 left)]) :
    ACallsZ Try.prog 51 [.bp fid 0] m (fun v m' => 1 ≤ left ∧ m' = m.upd lid [.v (.int .i64 ((left - 1 : Nat) : Int))]) (fun v m' => left < 1 ∧ v = faultPV 4 ∧ m' = m) := by
  refine ACallsZ.enter (mu := []) ok_mix Try.func51 rfl (by kernel_rfl) (by kernel_rfl) (by simp only [List.length_cons, List.length_nil, Try.ntmps51]; omega) ?_
  cases c1 : decide ((left : Int) < 1) with
  | true =>
    have hlt : left < 1 := by simp at c1; omega
    have hu := Try.underlying88
    (repeat (first | refine aSeq fun X hX => ?_ | refine aBlk ?_ | refine aSkip ?_ | (first | refine aExit ?_ | refine aRet ?_); try simp only [slx, ↓reduceIte, Nat.reduceEqDiff, reduceCtorEq] | (first | refine aReg ?_ | refine aDrE ?_); simp -implicitDefEqProofs only [forall_eq, ↓slp, slb, ↓reduceIte, reduceCtorEq, jA, jB, jC, jD, jE, jF, jG, jH, jI, jJ, jK, tfCeRun1, hf, hl, c1] | refine hX _ _ ?_; clear hX X | clear hX X; refine hX _ _ ?_; clear hX X | clear hX X; clear hX X; refine hX _ _ ?_; clear hX X | intro hlen; unfold maxLen at hlen | apply And.intro; focus (first | omega | assumption | (repeat' apply And.intro) <;> first | omega | assumption)))
    refine aIf ?_; simp -implicitDefEqProofs only [↓slp, slb, ↓reduceIte, reduceCtorEq, jA, jB, jC, jD, jE, jF, jG, jH, jI, jJ, jK]
    (repeat (first | refine aSeq fun X hX => ?_ | refine aBlk ?_ | refine aSkip ?_ | (first | refine aExit ?_ | refine aRet ?_); try simp only [slx, ↓reduceIte, Nat.reduceEqDiff, reduceCtorEq] | (first | refine aReg ?_ | refine aDrE ?_); simp -implicitDefEqProofs only [forall_eq, ↓slp, slb, ↓reduceIte, reduceCtorEq, jA, jB, jC, jD, jE, jF, jG, jH, jI, jJ, jK, tfCeRun1, hf, hl, c1, hu] | refine hX _ _ ?_; clear hX X | clear hX X; refine hX _ _ ?_; clear hX X | clear hX X; clear hX X; refine hX _ _ ?_; clear hX X | intro hlen; unfold maxLen at hlen | apply And.intro; focus (first | omega | assumption | (repeat' apply And.intro) <;> first | omega | assumption)))
    exact leave_same rfl ⟨hlt, rfl, rfl⟩
  | false =>
    have hge : 1 ≤ left := by simp at c1; omega
    have hw : IntKind.i64.wrap ((left : Int) - 1) = ((left - 1 : Nat) : Int) := by rw [wrap64 (by omega)]; omega
    (repeat (first | refine aSeq fun X hX => ?_ | refine aBlk ?_ | refine aSkip ?_ | (first | refine aExit ?_ | refine aRet ?_); try simp only [slx, ↓reduceIte, Nat.reduceEqDiff, reduceCtorEq] | (first | refine aReg ?_ | refine aDrE ?_); simp -implicitDefEqProofs only [forall_eq, ↓slp, slb, ↓reduceIte, reduceCtorEq, jA, jB, jC, jD, jE, jF, jG, jH, jI, jJ, jK, tfCeRun1, hf, hl, c1, hw] | refine hX _ _ ?_; clear hX X | clear hX X; refine hX _ _ ?_; clear hX X | clear hX X; clear hX X; refine hX _ _ ?_; clear hX X | intro hlen; unfold maxLen at hlen | apply And.intro; focus (first | omega | assumption | (repeat' apply And.intro) <;> first | omega | assumption)))
    refine aIf ?_; simp -implicitDefEqProofs only [↓slp, slb, ↓reduceIte, reduceCtorEq, jA, jB, jC, jD, jE, jF, jG, jH, jI, jJ, jK]
    (repeat (first | refine aSeq fun X hX => ?_ | refine aBlk ?_ | refine aSkip ?_ | (first | refine aExit ?_ | refine aRet ?_); try simp only [slx, ↓reduceIte, Nat.reduceEqDiff, reduceCtorEq] | (first | refine aReg ?_ | refine aDrE ?_); simp -implicitDefEqProofs only [forall_eq, ↓slp, slb, ↓reduceIte, reduceCtorEq, jA, jB, jC, jD, jE, jF, jG, jH, jI, jJ, jK, tfCeRun1, hf, hl, c1, hw] | refine hX _ _ ?_; clear hX X | clear hX X; refine hX _ _ ?_; clear hX X | clear hX X; clear hX X; refine hX _ _ ?_; clear hX X | intro hlen; unfold maxLen at hlen | apply And.intro; focus (first | omega | assumption | (repeat' apply And.intro) <;> first | omega | assumption)))
    simp only [aPost, Try.results51, aRes_n, aRes_t, aRes_c, pack_one, pack_two]
    exact leave_upd rfl rfl ⟨hge, rfl⟩
def envK (v : Env) : List PV := v.map fun x => .v (.string x.1)
def envV (v : Env) : List PV := v.map fun x => .v (.int .i32 x.2)
theorem mapGet_env (s : Str) : ∀ v : Env, mapGet (envK v) (envV v) s = (v.find s).map fun x => PV.v (.int .i32 x)
  | [] => rfl
  | x :: v => by
    have ih := mapGet_env s v
    unfold Env.find at ih ⊢
    simp only [envK, envV, List.map_cons, mapGet, List.find?_cons] at ih ⊢
    cases h : (x.1.toList == s.toList) with
    | true => simp
    | false => simp only [Bool.false_eq_true, if_false]; exact ih
set_option maxHeartbeats 1000000 in
theorem flocal_any (m : M) (fid lid eid mid : Nat) (base deep : Int) (env : Env) (s : Str)
    (a1 a2 a3 a4 a5 a6 : PV) (hf : m.get fid = some [.bp mid 0, a1, a2, a3, a4, a5, a6, .v (.int .i64 base), .mp eid, .bp lid 0, .v (.int .i64 deep)]) (he : m.get eid = some [.tp (envK env), .tp (envV env)]) :
    ACallsZ Try.prog 45 [.bp fid 0, .v (.string s)] m (fun v m' => ∃ x, env.find s = some x ∧ v = .v (.int .i32 x) ∧ m' = m) (fun v m' => env.find s = none ∧ v = faultPV 3 ∧ m' = m) := by
  refine ACallsZ.enter (mu := []) ok_mix Try.func45 rfl (by kernel_rfl) (by kernel_rfl) (by simp only [List.length_cons, List.length_nil, Try.ntmps45]; omega) ?_
  have hg := mapGet_env s env
  have hm : tmap Try.prog 98 = some 21 := by kernel_rfl
  have hu := Try.underlying88
  cases hc : env.find s with
  | none =>
    rw [hc] at hg
    simp only [Option.map_none] at hg
    (repeat (first | refine aSeq fun X hX => ?_ | refine aBlk ?_ | refine aSkip ?_ | (first | refine aExit ?_ | refine aRet ?_); try simp only [slx, ↓reduceIte, Nat.reduceEqDiff, reduceCtorEq] | (first | refine aReg ?_ | refine aDrE ?_); simp -implicitDefEqProofs only [forall_eq, ↓slp, slb, ↓reduceIte, reduceCtorEq, jA, jB, jC, jD, jE, jF, jG, jH, jI, jJ, jK, tfCeRun1, hf, he, hg, hm, lookRes] | refine hX _ _ ?_; clear hX X | clear hX X; refine hX _ _ ?_; clear hX X | clear hX X; clear hX X; refine hX _ _ ?_; clear hX X | intro hlen; unfold maxLen at hlen | apply And.intro; focus (first | omega | assumption | (repeat' apply And.intro) <;> first | omega | assumption)))
    refine aIf ?_; simp -implicitDefEqProofs only [↓slp, slb, ↓reduceIte, reduceCtorEq, jA, jB, jC, jD, jE, jF, jG, jH, jI, jJ, jK]
    (repeat (first | refine aSeq fun X hX => ?_ | refine aBlk ?_ | refine aSkip ?_ | (first | refine aExit ?_ | refine aRet ?_); try simp only [slx, ↓reduceIte, Nat.reduceEqDiff, reduceCtorEq] | (first | refine aReg ?_ | refine aDrE ?_); simp -implicitDefEqProofs only [forall_eq, ↓slp, slb, ↓reduceIte, reduceCtorEq, jA, jB, jC, jD, jE, jF, jG, jH, jI, jJ, jK, tfCeRun1, hu] | refine hX _ _ ?_; clear hX X | clear hX X; refine hX _ _ ?_; clear hX X | clear hX X; clear hX X; refine hX _ _ ?_; clear hX X | intro hlen; unfold maxLen at hlen | apply And.intro; focus (first | omega | assumption | (repeat' apply And.intro) <;> first | omega | assumption)))
    exact leave_same rfl ⟨rfl, rfl⟩
  | some x =>
    rw [hc] at hg
    simp only [Option.map_some] at hg
    (repeat (first | refine aSeq fun X hX => ?_ | refine aBlk ?_ | refine aSkip ?_ | (first | refine aExit ?_ | refine aRet ?_); try simp only [slx, ↓reduceIte, Nat.reduceEqDiff, reduceCtorEq] | (first | refine aReg ?_ | refine aDrE ?_); simp -implicitDefEqProofs only [forall_eq, ↓slp, slb, ↓reduceIte, reduceCtorEq, jA, jB, jC, jD, jE, jF, jG, jH, jI, jJ, jK, tfCeRun1, hf, he, hg, hm, lookRes] | refine hX _ _ ?_; clear hX X | clear hX X; refine hX _ _ ?_; clear hX X | clear hX X; clear hX X; refine hX _ _ ?_; clear hX X | intro hlen; unfold maxLen at hlen | apply And.intro; focus (first | omega | assumption | (repeat' apply And.intro) <;> first | omega | assumption)))
    refine aIf ?_; simp -implicitDefEqProofs only [↓slp, slb, ↓reduceIte, reduceCtorEq, jA, jB, jC, jD, jE, jF, jG, jH, jI, jJ, jK]
    (repeat (first | refine aSeq fun X hX => ?_ | refine aBlk ?_ | refine aSkip ?_ | (first | refine aExit ?_ | refine aRet ?_); try simp only [slx, ↓reduceIte, Nat.reduceEqDiff, reduceCtorEq] | (first | refine aReg ?_ | refine aDrE ?_); simp -implicitDefEqProofs only [forall_eq, ↓slp, slb, ↓reduceIte, reduceCtorEq, jA, jB, jC, jD, jE, jF, jG, jH, jI, jJ, jK, tfCeRun1] | refine hX _ _ ?_; clear hX X | clear hX X; refine hX _ _ ?_; clear hX X | clear hX X; clear hX X; refine hX _ _ ?_; clear hX X | intro hlen; unfold maxLen at hlen | apply And.intro; focus (first | omega | assumption | (repeat' apply And.intro) <;> first | omega | assumption)))
    simp only [aPost, Try.results45, aRes_n, aRes_t, aRes_c, pack_one, pack_two]
    exact leave_same rfl ⟨x, rfl, rfl, rfl⟩
end Go.Proofs.Ytepjjgnkhcjpcaa

/-
  The frame's cell.
-/
set_option linter.unusedVariables false
set_option linter.unusedSimpArgs false
namespace Go.Proofs.Ytepjjgnkhcjpcaa
open Nat renaming reduceEqDiff → jA, reduceAdd → jB, reduceMul → jC, reduceLT → jD, reduceLeDiff → jE, reduceBEq → jF, reduceBNe → jG
open Int renaming reduceLE → jH, reduceLT → jI, reduceToNat → jJ, reduceEq → jK
open Go
set_option maxRecDepth 20000
-- TNAMES: int; uint8; int32; string; bool; *int; clite.Func; clite.frame; *clite.frame; clite.fault; clite.Machine; *clite.Machine; clite.Prog; []bool; []int32; []clite.Struct; []clite.Func
set_option linter.defProp false
def tfCeRun2 := And.intro @tfA (And.intro @Ex.settle_pv (And.intro @Ex.pure_pv (And.intro @Ex.cells_pv (And.intro @Ex.cs.eq_1 (And.intro @On.pv.eq_1 (And.intro @Ty.pv.eq_1 (And.intro @Va.settle_pv (And.intro @Va.pure_pv (And.intro @Va.cells_pv @Va.cs.eq_1)))))))))

theorem pures_bools : ∀ l : List Bool, PV.pures (l.map fun b => PV.v (Value.bool b)) = true
  | [] => rfl
  | b :: l => by simp only [List.map_cons, PV.pures, PV.pure, pures_bools l, Bool.and_self]
set_option maxHeartbeats 4000000 in
theorem cell_any (m : M) (fid lid eid mid memid tid : Nat) (base deep : Int) (L : List Sr) (fs : List PV) (self s : Str) (mem : List Int) (tch : List Bool) (hL : L.length ≤ 1000000) (hF : ∀ s ∈ L, s.fields.length ≤ 1000000) (hlen : tch.length = mem.length) (hm63 : mem.length ≤ 1048576)
    (a1 a3 a4 a5 a6 : PV) (hf : m.get fid = some [.bp mid 0, a1, .v (.string self), a3, a4, a5, a6, .v (.int .i64 base), .mp eid, .bp lid 0, .v (.int .i64 deep)])
    (hm : m.get mid = some [.sl .no (L.map Sr.pv), .sl .no fs, .bs memid 0 mem.length, .bs tid 0 mem.length]) (ht : m.get tid = some (tch.map fun b => .v (.bool b))) :
    ACallsZ Try.prog 53 [.bp fid 0, .v (.string s)] m (fun v m' => ∃ k : Nat, v = .v (.int .i64 k) ∧ cellC L self base s ⟨mem, tch, 0⟩ = .ok k ⟨mem, tch.set k true, 0⟩ ∧ k < mem.length ∧ m' = m.upd tid ((tch.set k true).map fun b => .v (.bool b)))
      (fun v m' => cellC L self base s ⟨mem, tch, 0⟩ = .bad 2 ⟨mem, tch, 0⟩ ∧ v = faultPV 2 ∧ m' = m) := by
  refine ACallsZ.enter (mu := []) ok_mix Try.func53 rfl (by kernel_rfl) (by kernel_rfl) (by simp only [List.length_cons, List.length_nil, Try.ntmps53]; omega) ?_
  have hu := Try.underlying88
  have cO := fun m => offset_any .no .no L fs hL hF self s m
  (repeat (first | refine aSeq fun X hX => ?_ | refine aBlk ?_ | refine aSkip ?_ | (first | refine aExit ?_ | refine aRet ?_); try simp only [slx, ↓reduceIte, Nat.reduceEqDiff, reduceCtorEq] | (first | refine aReg ?_ | refine aDrE ?_); simp -implicitDefEqProofs only [forall_eq, ↓slp, slb, ↓reduceIte, reduceCtorEq, jA, jB, jC, jD, jE, jF, jG, jH, jI, jJ, jK, tfCeRun2, hf, hm, ht] | refine hX _ _ ?_; clear hX X | clear hX X; refine hX _ _ ?_; clear hX X | clear hX X; clear hX X; refine hX _ _ ?_; clear hX X | intro hlen; unfold maxLen at hlen | apply And.intro; focus (first | omega | assumption | (repeat' apply And.intro) <;> first | omega | assumption)))
  refine callE (cO _) ?_
  refine ⟨rfl, ?_⟩
  obtain ⟨n, hn⟩ : ∃ n, (offsetF L self s).1 = n := ⟨_, rfl⟩
  obtain ⟨st, hs2⟩ : ∃ st, (offsetF L self s).2 = st := ⟨_, rfl⟩
  obtain ⟨at_, hat⟩ : ∃ a, IntKind.i64.wrap (base + n) = a := ⟨_, rfl⟩
  have hbad : (n < 0 ∨ (st.toList == (⟨#[]⟩ : ByteArray).toList) = false ∨ at_ < 0 ∨ at_ ≥ mem.length) → cellC L self base s ⟨mem, tch, 0⟩ = .bad 2 ⟨mem, tch, 0⟩ := fun h => by
    unfold cellC
    simp only [hn, hs2, hat]
    rw [if_pos h]
  have hok : ¬ (n < 0 ∨ (st.toList == (⟨#[]⟩ : ByteArray).toList) = false ∨ at_ < 0 ∨ at_ ≥ mem.length) → cellC L self base s ⟨mem, tch, 0⟩ = .ok at_.toNat ⟨mem, tch.set at_.toNat true, 0⟩ := fun h => by
    unfold cellC
    simp only [hn, hs2, hat]
    rw [if_neg h]
  rw [hn, hs2]
  cases c1 : decide (n < 0) with
  | true =>
    have h1 : n < 0 := by simpa using c1
    simp -implicitDefEqProofs only [↓slp, slb, ↓reduceIte, reduceCtorEq, jA, jB, jC, jD, jE, jF, jG, jH, jI, jJ, jK, tfCeRun2, pI, hf, hm, hat, c1]
    (repeat (first | refine aSeq fun X hX => ?_ | refine aBlk ?_ | refine aSkip ?_ | (first | refine aExit ?_ | refine aRet ?_); try simp only [slx, ↓reduceIte, Nat.reduceEqDiff, reduceCtorEq] | (first | refine aReg ?_ | refine aDrE ?_); simp -implicitDefEqProofs only [forall_eq, ↓slp, slb, ↓reduceIte, reduceCtorEq, jA, jB, jC, jD, jE, jF, jG, jH, jI, jJ, jK, tfCeRun2, pI, hf, hm, hat, c1] | refine hX _ _ ?_; clear hX X | clear hX X; refine hX _ _ ?_; clear hX X | clear hX X; clear hX X; refine hX _ _ ?_; clear hX X | intro hlen; unfold maxLen at hlen | apply And.intro; focus (first | omega | assumption | (repeat' apply And.intro) <;> first | omega | assumption)))
    refine aIf ?_; simp -implicitDefEqProofs only [↓slp, slb, ↓reduceIte, reduceCtorEq, jA, jB, jC, jD, jE, jF, jG, jH, jI, jJ, jK]
    (repeat (first | refine aSeq fun X hX => ?_ | refine aBlk ?_ | refine aSkip ?_ | (first | refine aExit ?_ | refine aRet ?_); try simp only [slx, ↓reduceIte, Nat.reduceEqDiff, reduceCtorEq] | (first | refine aReg ?_ | refine aDrE ?_); simp -implicitDefEqProofs only [forall_eq, ↓slp, slb, ↓reduceIte, reduceCtorEq, jA, jB, jC, jD, jE, jF, jG, jH, jI, jJ, jK, tfCeRun2, hu] | refine hX _ _ ?_; clear hX X | clear hX X; refine hX _ _ ?_; clear hX X | clear hX X; clear hX X; refine hX _ _ ?_; clear hX X | intro hlen; unfold maxLen at hlen | apply And.intro; focus (first | omega | assumption | (repeat' apply And.intro) <;> first | omega | assumption)))
    exact leave_same rfl ⟨hbad (.inl h1), rfl, rfl⟩
  | false =>
  have h1 : ¬ n < 0 := by simpa using c1
  cases c2 : (st.toList == (⟨#[]⟩ : ByteArray).toList) with
  | false =>
    simp -implicitDefEqProofs only [↓slp, slb, ↓reduceIte, reduceCtorEq, jA, jB, jC, jD, jE, jF, jG, jH, jI, jJ, jK, tfCeRun2, pI, hf, hm, hat, c1, c2]
    (repeat (first | refine aSeq fun X hX => ?_ | refine aBlk ?_ | refine aSkip ?_ | (first | refine aExit ?_ | refine aRet ?_); try simp only [slx, ↓reduceIte, Nat.reduceEqDiff, reduceCtorEq] | (first | refine aReg ?_ | refine aDrE ?_); simp -implicitDefEqProofs only [forall_eq, ↓slp, slb, ↓reduceIte, reduceCtorEq, jA, jB, jC, jD, jE, jF, jG, jH, jI, jJ, jK, tfCeRun2, pI, hf, hm, hat, c1, c2] | refine hX _ _ ?_; clear hX X | clear hX X; refine hX _ _ ?_; clear hX X | clear hX X; clear hX X; refine hX _ _ ?_; clear hX X | intro hlen; unfold maxLen at hlen | apply And.intro; focus (first | omega | assumption | (repeat' apply And.intro) <;> first | omega | assumption)))
    refine aIf ?_; simp -implicitDefEqProofs only [↓slp, slb, ↓reduceIte, reduceCtorEq, jA, jB, jC, jD, jE, jF, jG, jH, jI, jJ, jK]
    (repeat (first | refine aSeq fun X hX => ?_ | refine aBlk ?_ | refine aSkip ?_ | (first | refine aExit ?_ | refine aRet ?_); try simp only [slx, ↓reduceIte, Nat.reduceEqDiff, reduceCtorEq] | (first | refine aReg ?_ | refine aDrE ?_); simp -implicitDefEqProofs only [forall_eq, ↓slp, slb, ↓reduceIte, reduceCtorEq, jA, jB, jC, jD, jE, jF, jG, jH, jI, jJ, jK, tfCeRun2, hu] | refine hX _ _ ?_; clear hX X | clear hX X; refine hX _ _ ?_; clear hX X | clear hX X; clear hX X; refine hX _ _ ?_; clear hX X | intro hlen; unfold maxLen at hlen | apply And.intro; focus (first | omega | assumption | (repeat' apply And.intro) <;> first | omega | assumption)))
    exact leave_same rfl ⟨hbad (.inr (.inl c2)), rfl, rfl⟩
  | true =>
  cases c3 : decide (at_ < 0) with
  | true =>
    have h3 : at_ < 0 := by simpa using c3
    simp -implicitDefEqProofs only [↓slp, slb, ↓reduceIte, reduceCtorEq, jA, jB, jC, jD, jE, jF, jG, jH, jI, jJ, jK, tfCeRun2, pI, hf, hm, hat, c1, c2, c3]
    (repeat (first | refine aSeq fun X hX => ?_ | refine aBlk ?_ | refine aSkip ?_ | (first | refine aExit ?_ | refine aRet ?_); try simp only [slx, ↓reduceIte, Nat.reduceEqDiff, reduceCtorEq] | (first | refine aReg ?_ | refine aDrE ?_); simp -implicitDefEqProofs only [forall_eq, ↓slp, slb, ↓reduceIte, reduceCtorEq, jA, jB, jC, jD, jE, jF, jG, jH, jI, jJ, jK, tfCeRun2, pI, hf, hm, hat, c1, c2, c3] | refine hX _ _ ?_; clear hX X | clear hX X; refine hX _ _ ?_; clear hX X | clear hX X; clear hX X; refine hX _ _ ?_; clear hX X | intro hlen; unfold maxLen at hlen | apply And.intro; focus (first | omega | assumption | (repeat' apply And.intro) <;> first | omega | assumption)))
    refine aIf ?_; simp -implicitDefEqProofs only [↓slp, slb, ↓reduceIte, reduceCtorEq, jA, jB, jC, jD, jE, jF, jG, jH, jI, jJ, jK]
    (repeat (first | refine aSeq fun X hX => ?_ | refine aBlk ?_ | refine aSkip ?_ | (first | refine aExit ?_ | refine aRet ?_); try simp only [slx, ↓reduceIte, Nat.reduceEqDiff, reduceCtorEq] | (first | refine aReg ?_ | refine aDrE ?_); simp -implicitDefEqProofs only [forall_eq, ↓slp, slb, ↓reduceIte, reduceCtorEq, jA, jB, jC, jD, jE, jF, jG, jH, jI, jJ, jK, tfCeRun2, hu] | refine hX _ _ ?_; clear hX X | clear hX X; refine hX _ _ ?_; clear hX X | clear hX X; clear hX X; refine hX _ _ ?_; clear hX X | intro hlen; unfold maxLen at hlen | apply And.intro; focus (first | omega | assumption | (repeat' apply And.intro) <;> first | omega | assumption)))
    exact leave_same rfl ⟨hbad (.inr (.inr (.inl h3))), rfl, rfl⟩
  | false =>
  have h3 : ¬ at_ < 0 := by simpa using c3
  cases c4 : decide (at_ ≥ (mem.length : Int)) with
  | true =>
    have h4 : at_ ≥ mem.length := by simpa using c4
    simp -implicitDefEqProofs only [↓slp, slb, ↓reduceIte, reduceCtorEq, jA, jB, jC, jD, jE, jF, jG, jH, jI, jJ, jK, tfCeRun2, pI, hf, hm, hat, c1, c2, c3, c4]
    (repeat (first | refine aSeq fun X hX => ?_ | refine aBlk ?_ | refine aSkip ?_ | (first | refine aExit ?_ | refine aRet ?_); try simp only [slx, ↓reduceIte, Nat.reduceEqDiff, reduceCtorEq] | (first | refine aReg ?_ | refine aDrE ?_); simp -implicitDefEqProofs only [forall_eq, ↓slp, slb, ↓reduceIte, reduceCtorEq, jA, jB, jC, jD, jE, jF, jG, jH, jI, jJ, jK, tfCeRun2, pI, hf, hm, hat, c1, c2, c3, c4] | refine hX _ _ ?_; clear hX X | clear hX X; refine hX _ _ ?_; clear hX X | clear hX X; clear hX X; refine hX _ _ ?_; clear hX X | intro hlen; unfold maxLen at hlen | apply And.intro; focus (first | omega | assumption | (repeat' apply And.intro) <;> first | omega | assumption)))
    refine aIf ?_; simp -implicitDefEqProofs only [↓slp, slb, ↓reduceIte, reduceCtorEq, jA, jB, jC, jD, jE, jF, jG, jH, jI, jJ, jK]
    (repeat (first | refine aSeq fun X hX => ?_ | refine aBlk ?_ | refine aSkip ?_ | (first | refine aExit ?_ | refine aRet ?_); try simp only [slx, ↓reduceIte, Nat.reduceEqDiff, reduceCtorEq] | (first | refine aReg ?_ | refine aDrE ?_); simp -implicitDefEqProofs only [forall_eq, ↓slp, slb, ↓reduceIte, reduceCtorEq, jA, jB, jC, jD, jE, jF, jG, jH, jI, jJ, jK, tfCeRun2, hu] | refine hX _ _ ?_; clear hX X | clear hX X; refine hX _ _ ?_; clear hX X | clear hX X; clear hX X; refine hX _ _ ?_; clear hX X | intro hlen; unfold maxLen at hlen | apply And.intro; focus (first | omega | assumption | (repeat' apply And.intro) <;> first | omega | assumption)))
    exact leave_same rfl ⟨hbad (.inr (.inr (.inr h4))), rfl, rfl⟩
  | false =>
  have h4 : ¬ at_ ≥ mem.length := by simpa using c4
  obtain ⟨k, rfl⟩ : ∃ k : Nat, at_ = (k : Int) := ⟨at_.toNat, by omega⟩
  have hk : k < mem.length := by omega
  have hkt : k < tch.length := by omega
  simp -implicitDefEqProofs only [↓slp, slb, ↓reduceIte, reduceCtorEq, jA, jB, jC, jD, jE, jF, jG, jH, jI, jJ, jK, tfCeRun2, pI, hf, hm, hat, c1, c2, c3, c4]
  (repeat (first | refine aSeq fun X hX => ?_ | refine aBlk ?_ | refine aSkip ?_ | (first | refine aExit ?_ | refine aRet ?_); try simp only [slx, ↓reduceIte, Nat.reduceEqDiff, reduceCtorEq] | (first | refine aReg ?_ | refine aDrE ?_); simp -implicitDefEqProofs only [forall_eq, ↓slp, slb, ↓reduceIte, reduceCtorEq, jA, jB, jC, jD, jE, jF, jG, jH, jI, jJ, jK, tfCeRun2, pI, hf, hm, hat, c1, c2, c3, c4] | refine hX _ _ ?_; clear hX X | clear hX X; refine hX _ _ ?_; clear hX X | clear hX X; clear hX X; refine hX _ _ ?_; clear hX X | intro hlen; unfold maxLen at hlen | apply And.intro; focus (first | omega | assumption | (repeat' apply And.intro) <;> first | omega | assumption)))
  refine aIf ?_; simp -implicitDefEqProofs only [↓slp, slb, ↓reduceIte, reduceCtorEq, jA, jB, jC, jD, jE, jF, jG, jH, jI, jJ, jK]
  (repeat (first | refine aSeq fun X hX => ?_ | refine aBlk ?_ | refine aSkip ?_ | (first | refine aExit ?_ | refine aRet ?_); try simp only [slx, ↓reduceIte, Nat.reduceEqDiff, reduceCtorEq] | (first | refine aReg ?_ | refine aDrE ?_); simp -implicitDefEqProofs only [forall_eq, ↓slp, slb, ↓reduceIte, reduceCtorEq, jA, jB, jC, jD, jE, jF, jG, jH, jI, jJ, jK, tfCeRun2, hf, hm, ht] | refine hX _ _ ?_; clear hX X | clear hX X; refine hX _ _ ?_; clear hX X | clear hX X; clear hX X; refine hX _ _ ?_; clear hX X | intro hlen; unfold maxLen at hlen | apply And.intro; focus (first | omega | assumption | (repeat' apply And.intro) <;> first | omega | assumption)))
  have hv := hok (fun h => by
    rcases h with h | h | h | h
    · exact h1 h
    · rw [c2] at h; cases h
    · exact h3 h
    · exact h4 h)
  rw [Int.toNat_natCast] at hv
  simp only [aPost, Try.results53, aRes_n, aRes_t, aRes_c, pack_one, pack_two]
  have hset : List.take (0 + k * 1) (tch.map fun b => PV.v (Value.bool b)) ++ [PV.v (Value.bool true)] ++ List.drop (0 + k * 1 + 1) (tch.map fun b => PV.v (Value.bool b)) = (tch.set k true).map fun b => PV.v (Value.bool b) := by
    rw [List.set_eq_take_append_cons_drop, if_pos hkt, List.map_append, List.map_cons, ← List.map_take, ← List.map_drop]
    simp
  rw [hset]
  exact leave_upd (pures_bools _) rfl ⟨k, rfl, hv, hk, rfl⟩
end Go.Proofs.Ytepjjgnkhcjpcaa

/-
  The walks over package nums and its reference: what each call answers; the world stays. Then the same as calls without addresses.
-/
set_option linter.unusedVariables false
set_option linter.unusedSimpArgs false
namespace Go.Proofs.Ytepjjgnkhcjpcaa
open Go Go.RowKit

def orderN (op a b : Int) : Int :=
  if op = 16 then (if b ≤ a then 1 else 0) else if op = 11 then (if a = b then 1 else 0) else if op = 14 then (if a ≤ b then 1 else 0)
  else if op = 13 then (if a < b then 1 else 0) else if op = 15 then (if b < a then 1 else 0) else 0

def partsN (op a b : Int) : Int :=
  if b = 0 then 0 else if op = 6 then wrap32 (a.tdiv b) else a.tmod b

def binN (op a b : Int) : Int :=
  if op = 3 then wrap32 (a + b) else if op = 4 then wrap32 (a - b) else if op = 5 then wrap32 (a * b)
  else if op = 6 ∨ op = 7 then partsN op a b
  else if op = 8 then (if a ≠ 0 ∧ b ≠ 0 then 1 else 0) else if op = 9 then (if a ≠ 0 ∨ b ≠ 0 then 1 else 0)
  else if op = 12 ∨ op = 10 then (if a ≠ b then 1 else 0) else orderN op a b

def unN (op a : Int) : Int := if op = 1 then (if a = 0 then 1 else 0) else if op = 2 then wrap32 (-a) else 0

theorem tdiv_least : wrap32 (Int.tdiv (-2147483648) (-1)) = -2147483648 := by
  rw [show Int.tdiv (-2147483648) (-1) = 2147483648 from by decide]; unfold wrap32; omega
theorem tmod_least : Int.tmod (-2147483648) (-1) = 0 := by decide
def R32 (a : Int) : Prop := -2147483648 ≤ a ∧ a ≤ 2147483647

theorem r32_wrap (n : Int) : R32 (wrap32 n) := by unfold R32 wrap32; omega
theorem r32_ite {c : Prop} [Decidable c] {a b : Int} (ha : R32 a) (hb : R32 b) : R32 (if c then a else b) := by split <;> assumption
theorem r32_0 : R32 0 := by unfold R32; omega
theorem r32_1 : R32 1 := by unfold R32; omega
theorem r32_tmod (a b : Int) (ha : R32 a) : R32 (a.tmod b) := by
  unfold R32 at *
  have h1 : (a.tmod b).natAbs ≤ a.natAbs := by rw [Int.natAbs_tmod]; exact Nat.mod_le _ _
  rcases Int.le_total 0 a with h | h
  · have := Int.tmod_nonneg b h; omega
  · have h2 : 0 ≤ (-a).tmod b := Int.tmod_nonneg b (by omega)
    rw [Int.neg_tmod] at h2; omega
theorem mul_bd (a b : Int) (ha : -2147483648 ≤ a ∧ a ≤ 2147483647) (hb : -2147483648 ≤ b ∧ b ≤ 2147483647) :
    -4611686018427387904 ≤ a * b ∧ a * b ≤ 4611686018427387904 := by
  have h : (a * b).natAbs ≤ 2147483648 * 2147483648 := by
    rw [Int.natAbs_mul]; exact Nat.mul_le_mul (by omega) (by omega)
  omega
theorem binN_bd (op a b : Int) (ha : R32 a) : R32 (binN op a b) := by
  unfold binN partsN orderN
  repeat' (first | exact r32_wrap _ | exact r32_0 | exact r32_1 | exact r32_tmod _ _ ha | refine r32_ite ?_ ?_)
theorem unN_bd (op a : Int) : R32 (unN op a) := by
  unfold unN
  repeat' (first | exact r32_wrap _ | exact r32_0 | exact r32_1 | refine r32_ite ?_ ?_)

theorem ret32 {a b : Int} (h : a = b) : Ending.returned (.int .i32 a) = .returned (.int .i32 b) := by rw [h]

set_option maxHeartbeats 400000 in
theorem truth_any (b : Bool) (w : World) :
    Calls Try.prog 57 #[.bool b] w fun e w' => e = .returned (.int .i32 (if b then 1 else 0)) ∧ w = w' := by
  cases b
  all_goals
    go_enter Try.func57, Try.ntmps57
    go_wp2
    go_ret
    exact ⟨rfl, rfl⟩

set_option maxHeartbeats 400000 in
theorem is_any (b : Bool) (w : World) :
    Calls Try.prog 49 #[.bool b] w fun e w' => e = .returned (.int .i32 (if b then 1 else 0)) ∧ w = w' := by
  cases b
  all_goals
    go_enter Try.func49, Try.ntmps49
    go_wp2
    go_ret
    exact ⟨rfl, rfl⟩

set_option maxHeartbeats 1000000 in
theorem order_any (op a b : Int) (w : World) :
    Calls Try.prog 59 #[.int .u8 op, .int .i32 a, .int .i32 b] w fun e w' => e = .returned (.int .i32 (orderN op a b)) ∧ w = w' := by
  go_enter Try.func59, Try.ntmps59
  go_wp2_with (go_at_call 57; refine (truth_any _ _).mono ?_; rintro e w' ⟨rfl, rfl⟩)
  all_goals
    go_ret
    refine ⟨ret32 ?_, rfl⟩
    simp only [beq_iff_eq, beq_eq_false_iff_ne, ne_eq] at *
    unfold orderN
    simp only [*, if_true, if_false]
    repeat' split
    all_goals first | rfl | omega

set_option maxHeartbeats 1000000 in
theorem parts_any (op a b : Int) (ha : R32 a) (hb : R32 b) (w : World) :
    Calls Try.prog 58 #[.int .u8 op, .int .i32 a, .int .i32 b] w fun e w' => e = .returned (.int .i32 (partsN op a b)) ∧ w = w' := by
  unfold R32 at ha hb
  by_cases h0 : b = 0
  · go_enter Try.func58, Try.ntmps58
    go_wp2
    go_ret
    exact ⟨ret32 (by simp [partsN, h0]), rfl⟩
  · by_cases h1 : a = -2147483648
    · have e1 : partsN 6 (-2147483648) (-1) = -2147483648 := by simp only [partsN]; exact tdiv_least
      have e2 : ∀ op, ¬ op = 6 → partsN op (-2147483648) (-1) = 0 := by intro op h; simp only [partsN, if_neg h]; exact tmod_least
      have e3 : partsN 6 (-2147483648) b = wrap32 (-Int.tdiv 2147483648 b) := by
        simp only [partsN, if_neg h0, if_true, Int.neg_tdiv]
      have e4 : ∀ op, ¬ op = 6 → partsN op (-2147483648) b = -(2147483648 % b) := by
        intro op h; simp only [partsN, if_neg h0, if_neg h, Int.neg_tmod]; rw [Int.tmod_eq_emod_of_nonneg (by omega)]
      have E1 := Lib.hid e1; have E2 := Lib.hid e2; have E3 := Lib.hid e3; have E4 := Lib.hid e4
      clear e1 e2 e3 e4
      subst h1
      go_enter Try.func58, Try.ntmps58
      go_wp2
      all_goals
        go_ret
        refine ⟨ret32 ?_, rfl⟩
        simp only [beq_iff_eq, beq_eq_false_iff_ne, ne_eq] at *
        by_cases hb1 : b = -1
        · subst hb1
          by_cases ho : op = 6
          · subst ho; first | exact E1.out.symm | (exfalso; omega)
          · first | exact (E2.out op ho).symm | (exfalso; omega)
        · by_cases ho : op = 6
          · subst ho; first | exact E3.out.symm | (exfalso; omega)
          · first | exact (E4.out op ho).symm | (exfalso; omega)
    · go_enter Try.func58, Try.ntmps58
      go_wp2
      all_goals
        go_ret
        refine ⟨ret32 ?_, rfl⟩
        simp only [beq_iff_eq, beq_eq_false_iff_ne, ne_eq] at *
        simp only [partsN, *, if_true, if_false]

set_option maxHeartbeats 1000000 in
theorem bin_any (op a b : Int) (ha : R32 a) (hb : R32 b) (w : World) :
    Calls Try.prog 56 #[.int .u8 op, .int .i32 a, .int .i32 b] w fun e w' => e = .returned (.int .i32 (binN op a b)) ∧ w = w' := by
  have HA := Lib.hid ha
  have HB := Lib.hid hb
  clear ha hb
  go_enter Try.func56, Try.ntmps56
  go_wp2_with (first | (go_at_call 57; refine (truth_any _ _).mono ?_; rintro e w' ⟨rfl, rfl⟩) | (go_at_call 58; refine (parts_any _ _ _ HA.out HB.out _).mono ?_; rintro e w' ⟨rfl, rfl⟩) | (go_at_call 59; refine (order_any _ _ _ _).mono ?_; rintro e w' ⟨rfl, rfl⟩))
  all_goals
    go_ret
    refine ⟨ret32 ?_, rfl⟩
    simp only [beq_iff_eq, beq_eq_false_iff_ne, bne_iff_ne, bne_eq_false_iff_eq, ne_eq] at *
    unfold binN
    simp (config := { decide := true }) only [*, if_true, if_false, true_or, or_true, or_self, not_true_eq_false, not_false_eq_true, true_and, and_true, false_and, and_false, and_self]
    try (first | rfl | (repeat' split <;> first | rfl | omega))

set_option maxHeartbeats 1000000 in
theorem un_any (op a : Int) (ha : R32 a) (w : World) :
    Calls Try.prog 55 #[.int .u8 op, .int .i32 a] w fun e w' => e = .returned (.int .i32 (unN op a)) ∧ w = w' := by
  unfold R32 at ha
  go_enter Try.func55, Try.ntmps55
  go_wp2_with (go_at_call 57; refine (truth_any _ _).mono ?_; rintro e w' ⟨rfl, rfl⟩)
  all_goals
    go_ret
    refine ⟨ret32 ?_, rfl⟩
    simp only [beq_iff_eq, beq_eq_false_iff_ne, bne_iff_ne, bne_eq_false_iff_eq, ne_eq] at *
    simp (config := { decide := true }) only [unN, *, if_true, if_false]
    try (first | rfl | (repeat' split <;> first | rfl | omega))

set_option maxHeartbeats 1000000 in
theorem wrap_any (n : Int) (h0 : -4611686018427387905 < n) (h1 : n < 4611686018427387905) (w : World) :
    Calls Try.prog 50 #[.int .i64 n] w fun e w' => e = .returned (.int .i32 (wrap32 n)) ∧ w = w' := by
  go_enter Try.func50, Try.ntmps50
  go_wp2
  go_loop [0] (fun v => ∃ m : Int, v = .int .i64 m ∧ -4611686018427387905 < m ∧ m < 4611686018427387905 ∧ Hid (wrap32 m = wrap32 n)) (fun v => (intOf v).toNat)
  case atStart => exact ⟨n, rfl, h0, h1, Lib.hid rfl⟩
  case round =>
    obtain ⟨m, rfl, hm0, hm1, hw⟩ := hrel
    by_cases hc : 2147483648 ≤ m
    · go_wp2
      exact ⟨⟨_, rfl, by omega, by omega, Lib.hid (by rw [← hw.out]; unfold wrap32; omega)⟩, by simp only [intOf]; omega⟩
    · go_wp2
      go_loop [0] (fun v => ∃ m : Int, v = .int .i64 m ∧ -4611686018427387905 < m ∧ m < 2147483648 ∧ Hid (wrap32 m = wrap32 n)) (fun v => (-(intOf v)).toNat)
      case atStart => exact ⟨m, rfl, hm0, by omega, hw⟩
      case round =>
        obtain ⟨m2, rfl, hm20, hm21, hw2⟩ := hrel
        by_cases hc2 : m2 < -2147483648
        · go_wp2
          exact ⟨⟨_, rfl, by omega, by omega, Lib.hid (by rw [← hw2.out]; unfold wrap32; omega)⟩, by simp only [intOf]; omega⟩
        · go_wp2
          go_ret
          exact ⟨ret32 (by rw [← hw2.out]; first | rfl | (unfold wrap32; omega)), rfl⟩

theorem tdiv_bd (a b : Int) (ha : -2147483648 ≤ a ∧ a ≤ 2147483647) : -2147483648 ≤ a.tdiv b ∧ a.tdiv b ≤ 2147483648 := by
  have h : (a.tdiv b).natAbs ≤ a.natAbs := by rw [Int.natAbs_tdiv]; exact Nat.div_le_self _ _
  omega

set_option maxHeartbeats 2000000 in
theorem rbin_any (op a b : Int) (ha : R32 a) (hb : R32 b) (w : World) :
    Calls Try.prog 47 #[.int .u8 op, .int .i32 a, .int .i32 b] w fun e w' => e = .returned (.int .i32 (binN op a b)) ∧ w = w' := by
  have hr := r32_tmod a b ha
  unfold R32 at ha hb hr
  have hm : -4611686018427387904 ≤ a * b ∧ a * b ≤ 4611686018427387904 := mul_bd a b ha hb
  have hq := tdiv_bd a b ha
  have e1 : wrap32 (a.tmod b) = a.tmod b := by unfold wrap32; omega
  have E1 := Lib.hid e1
  clear e1
  by_cases h0 : b = 0
  all_goals
    go_enter Try.func47, Try.ntmps47
    go_wp2_with (first | (go_at_call 49; refine (is_any _ _).mono ?_; rintro e w' ⟨rfl, rfl⟩) | (go_at_call 50; refine (wrap_any _ (by omega) (by omega) _).mono ?_; rintro e w' ⟨rfl, rfl⟩))
    all_goals
      go_ret
      refine ⟨ret32 ?_, rfl⟩
      go_light
      simp only [beq_iff_eq, beq_eq_false_iff_ne, bne_iff_ne, bne_eq_false_iff_eq, ne_eq] at *
      unfold binN partsN orderN
      simp (config := { decide := true }) only [*, if_true, if_false, true_or, or_true, or_self, not_true_eq_false, not_false_eq_true, true_and, and_true, false_and, and_false, and_self, Int.add_zero, Int.sub_zero, Int.mul_zero, E1.out]
      try (first | rfl | (repeat' split <;> first | rfl | omega))

set_option maxHeartbeats 1000000 in
theorem run_any (op a : Int) (ha : R32 a) (w : World) :
    Calls Try.prog 46 #[.int .u8 op, .int .i32 a] w fun e w' => e = .returned (.int .i32 (unN op a)) ∧ w = w' := by
  unfold R32 at ha
  have e1 : wrap32 (0 - a) = wrap32 (-a) := by rw [Int.zero_sub]
  have E1 := Lib.hid e1
  clear e1
  go_enter Try.func46, Try.ntmps46
  go_wp2_with (first | (go_at_call 49; refine (is_any _ _).mono ?_; rintro e w' ⟨rfl, rfl⟩) | (go_at_call 50; refine (wrap_any _ (by omega) (by omega) _).mono ?_; rintro e w' ⟨rfl, rfl⟩))
  all_goals
    go_ret
    refine ⟨ret32 ?_, rfl⟩
    go_light
    simp only [beq_iff_eq, beq_eq_false_iff_ne, bne_iff_ne, bne_eq_false_iff_eq, ne_eq] at *
    simp (config := { decide := true }) only [unN, *, if_true, if_false]
    try (first | rfl | exact E1.out | (repeat' split <;> first | rfl | omega))


theorem ACalls.ofOld {g : FuncId} {vs : List Value} {r : Value} {m : M} (hc : canCall Try.prog g = true) (hr : atom r = true) (ha : ∀ v ∈ vs, atom v = true) (h : ∀ w, Calls Try.prog g vs.toArray w fun e w' => e = .returned r ∧ w = w') :
    ACalls Try.prog g (vs.map PV.v) m (fun v m' => v = .v r ∧ m' = m) := by
  refine ⟨hc, fun G w us hI hl hr' => ?_⟩
  have hus : us = vs := by
    apply List.ext_getElem (by simpa using hl.symm)
    intro j h1 h2
    have := hr' j (by simpa using h2) h1
    simp only [List.getElem_map] at this
    exact this.atomEq
  subst hus
  refine (h w).mono ?_
  rintro e w' ⟨rfl, rfl⟩
  exact .inl ⟨_, _, m, G, rfl, ⟨rfl, rfl⟩, .v hr, hI, .refl _ _⟩
abbrev pJ (n : Int) : PV := .v (.int .i32 n)
theorem numBin_any (op a b : Int) (ha : R32 a) (hb : R32 b) (m : M) : ACalls Try.prog 56 [.v (.int .u8 op), pJ a, pJ b] m (fun v m' => v = pJ (binN op a b) ∧ m' = m) :=
  ACalls.ofOld (vs := [.int .u8 op, .int .i32 a, .int .i32 b]) (by kernel_rfl) rfl (by simp [atom]) (fun w => bin_any op a b ha hb w)
theorem numUn_any (op a : Int) (ha : R32 a) (m : M) : ACalls Try.prog 55 [.v (.int .u8 op), pJ a] m (fun v m' => v = pJ (unN op a) ∧ m' = m) :=
  ACalls.ofOld (vs := [.int .u8 op, .int .i32 a]) (by kernel_rfl) rfl (by simp [atom]) (fun w => un_any op a ha w)
theorem refBin_any (op a b : Int) (ha : R32 a) (hb : R32 b) (m : M) : ACalls Try.prog 47 [.v (.int .u8 op), pJ a, pJ b] m (fun v m' => v = pJ (binN op a b) ∧ m' = m) :=
  ACalls.ofOld (vs := [.int .u8 op, .int .i32 a, .int .i32 b]) (by kernel_rfl) rfl (by simp [atom]) (fun w => rbin_any op a b ha hb w)
theorem refUn_any (op a : Int) (ha : R32 a) (m : M) : ACalls Try.prog 46 [.v (.int .u8 op), pJ a] m (fun v m' => v = pJ (unN op a) ∧ m' = m) :=
  ACalls.ofOld (vs := [.int .u8 op, .int .i32 a]) (by kernel_rfl) rfl (by simp [atom]) (fun w => run_any op a ha w)
end Go.Proofs.Ytepjjgnkhcjpcaa
