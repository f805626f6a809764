/-
 Texts that belong together: AbRun2, AbRun3, AbDef.
-/
-- halved
import Derived.Test.YtohgdopfjkjppaaGreatDoorAbRun1
import Derived.Test.YtohgdopfjkjppaaGreatDoorAbDrw
import Derived.Test.YtohgdopfjkjppaaGreatDoorWpA
import Derived.Defers
import Derived.Recover
/-
 Regions on values that are known: what they end with, and that the machine's rules grant it.
-/
set_option linter.unusedVariables false
set_option linter.unusedSimpArgs false
namespace Go.Proofs.YtohgdopfjkjppaaGreatDoor
open Go Go.RowKit

/-- Slots: those a call comes with, and over these what is laid, as a tree by the slots' numbers. -/
inductive ET where
 | nil
 | node (v : Option PV) (l r : ET)
namespace ET
def top : ET → Option PV
 | nil => none
 | node v _ _ => v
def left : ET → ET
 | nil => nil
 | node _ l _ => l
def right : ET → ET
 | nil => nil
 | node _ _ r => r
def get : ET → Nat → Option PV
 | nil, _ => none
 | node v l r, t => match Nat.beq t 0 with
  | true => v
  | false => match Nat.beq (t % 2) 1 with
   | true => l.get (t / 2)
   | false => r.get (t / 2 - 1)
def put : Nat → ET → Nat → PV → ET
 | 0, e, _, _ => e
 | k + 1, e, t, x => match Nat.beq t 0 with
  | true => node (some x) e.left e.right
  | false => match Nat.beq (t % 2) 1 with
   | true => node e.top (put k e.left (t / 2) x) e.right
   | false => node e.top e.left (put k e.right (t / 2 - 1) x)
theorem top_n (v : Option PV) (l r : ET) : (node v l r).top = v := rfl
theorem left_n (v : Option PV) (l r : ET) : (node v l r).left = l := rfl
theorem right_n (v : Option PV) (l r : ET) : (node v l r).right = r := rfl
theorem get_eq (e : ET) (t : Nat) : e.get t = if t = 0 then e.top else if t % 2 = 1 then e.left.get (t / 2) else e.right.get (t / 2 - 1) := by
 cases e with
 | nil => simp [get, top, left, right]
 | node v l r =>
  simp only [get, top, left, right]
  by_cases h0 : t = 0
  ·subst h0; rfl
  ·have : Nat.beq t 0 = false := by
     cases h : Nat.beq t 0 with
     | false => rfl
     | true => exact absurd (Nat.eq_of_beq_eq_true h) h0
   rw [this, if_neg h0]
   by_cases h1 : t % 2 = 1
   ·rw [if_pos h1, h1]
    first | done | rfl
   ·have : Nat.beq (t % 2) 1 = false := by
      cases h : Nat.beq (t % 2) 1 with
      | false => rfl
      | true => exact absurd (Nat.eq_of_beq_eq_true h) h1
    rw [this, if_neg h1]
theorem get_put : ∀ (k : Nat) (e : ET) (t s : Nat) (x : PV), t + 1 < 2 ^ k → (put k e t x).get s = if s = t then some x else e.get s
 | 0, e, t, s, x, h => by simp at h
 | k + 1, e, t, s, x, h => by
  have hp : 2 ^ (k + 1) = 2 * 2 ^ k := by rw [Nat.pow_succ]; omega
  by_cases h0 : t = 0
  ·subst h0
   have : put (k + 1) e 0 x = node (some x) e.left e.right := rfl
   rw [this, get_eq, get_eq e]
   simp only [top_n, left_n, right_n]
   by_cases hs : s = 0
   ·simp [hs]
   ·simp [hs]
  ·have hb : Nat.beq t 0 = false := by
     cases h : Nat.beq t 0 with
     | false => rfl
     | true => exact absurd (Nat.eq_of_beq_eq_true h) h0
   by_cases h1 : t % 2 = 1
   ·have : put (k + 1) e t x = node e.top (put k e.left (t / 2) x) e.right := by
      simp only [put, hb, h1]; first | done | rfl
    rw [this, get_eq, get_eq e]
    simp only [top_n, left_n, right_n]
    rw [get_put k e.left (t / 2) (s / 2) x (by omega)]
    by_cases hs : s = 0
    ·subst hs; rw [if_pos rfl, if_pos rfl, if_neg (by omega)]
    ·rw [if_neg hs, if_neg hs]
     by_cases hs1 : s % 2 = 1
     ·rw [if_pos hs1, if_pos hs1]
      by_cases he : s = t
      ·rw [if_pos he, if_pos (by omega)]
      ·rw [if_neg he, if_neg (by omega)]
     ·rw [if_neg hs1, if_neg hs1, if_neg (by omega)]
   ·have hb1 : Nat.beq (t % 2) 1 = false := by
      cases h : Nat.beq (t % 2) 1 with
      | false => rfl
      | true => exact absurd (Nat.eq_of_beq_eq_true h) h1
    have : put (k + 1) e t x = node e.top e.left (put k e.right (t / 2 - 1) x) := by
     simp only [put, hb, hb1]
    rw [this, get_eq, get_eq e]
    simp only [top_n, left_n, right_n]
    rw [get_put k e.right (t / 2 - 1) (s / 2 - 1) x (by omega)]
    by_cases hs : s = 0
    ·subst hs; rw [if_pos rfl, if_pos rfl, if_neg (by omega)]
    ·rw [if_neg hs, if_neg hs]
     by_cases hs1 : s % 2 = 1
     ·rw [if_pos hs1, if_pos hs1, if_neg (by omega)]
     ·rw [if_neg hs1, if_neg hs1]
      by_cases he : s = t
      ·rw [if_pos he, if_pos (by omega)]
      ·rw [if_neg he, if_neg (by omega)]
end ET
structure EN where
 base : List PV
 over : ET
def EN.get (e : EN) (t : Nat) : PV := match e.over.get t with
 | some v => v
 | none => e.base.getD t (.tp [])
def fl (env : EN) : F := fun t => env.get t
def eput (env : EN) (d : Option Tmp) (v : PV) : Option EN := match d with
 | none => some env
 | some d => if d < 4095 then some ⟨env.base, env.over.put 12 d v⟩ else none
theorem eput_fl {env env' : EN} {d : Option Tmp} {v : PV} (h : eput env d v = some env') : F.put (fl env) d v = fl env' := by
 cases d with
 | none => cases h; rfl
 | some d =>
  simp only [eput] at h
  split at h
  ·rename_i hd
   cases h
   funext t
   simp only [F.put, fl, EN.get]
   rw [ET.get_put 12 env.over d t v (Nat.succ_lt_succ hd)]
   by_cases ht : t = d
   ·simp [ht]
   ·simp [ht]
  ·cases h
/-- No boxes but those of a list turned. -/
def Fr (m m' : M) (l : List Nat) : Prop := m.nb ≤ m'.nb ∧ ∀ id, id < m.nb → id ∉ l → m'.get id = m.get id
theorem Fr.refl (m : M) : Fr m m [] := ⟨Nat.le_refl _, fun _ _ _ => rfl⟩
theorem Fr.trans {m m1 m2 : M} {a b : List Nat} (h : Fr m m1 a) (k : Fr m1 m2 b) : Fr m m2 (a ++ b) :=
 ⟨Nat.le_trans h.1 k.1, fun id hi hn => (k.2 id (Nat.lt_of_lt_of_le hi h.1) fun hb => hn (List.mem_append_right _ hb)).trans (h.2 id hi fun ha => hn (List.mem_append_left _ ha))⟩
/-- The same, where it is known. -/
def frO (m m' : M) : Option (List Nat) → Prop
 | none => True
 | some l => Fr m m' l
def wadd : Option (List Nat) → Option (List Nat) → Option (List Nat)
 | some a, some b => some (a ++ b)
 | _, _ => none
theorem frO_add {m m1 m2 : M} : ∀ {a b : Option (List Nat)}, frO m m1 a → frO m1 m2 b → frO m m2 (wadd a b)
 | some _, some _, h, k => Fr.trans h k
 | some _, none, _, _ => trivial
 | none, _, _, _ => trivial
/-- How a call, or an operation, ends. -/
inductive ER where
 | val (v : PV) (m : M) (ws : Option (List Nat) := none)
 | pan (v : PV) (m : M)
abbrev CallR := FuncId → List PV → M → Option ER
def ER.grants (P : Program) (g : FuncId) (args : List PV) (m : M) : ER → Prop
 | .val v m' none => ACalls P g args m (fun v2 m2 => v2 = v ∧ m2 = m')
 | .val v m' (some l) => ACalls P g args m (fun v2 m2 => v2 = v ∧ m2 = m') ∧ Fr m m' l
 | .pan v m' => ACallsZ P g args m (fun _ _ => False) (fun v2 m2 => v2 = v ∧ m2 = m')
theorem ER.grants_val {P : Program} {g : FuncId} {args : List PV} {m m' : M} {v : PV} {ws : Option (List Nat)} (h : (ER.val v m' ws).grants P g args m) : ACalls P g args m (fun v2 m2 => v2 = v ∧ m2 = m') ∧ frO m m' ws := by
 cases ws with
 | none => exact ⟨h, trivial⟩
 | some l => exact h
theorem ER.grants_mk {P : Program} {g : FuncId} {args : List PV} {m m' : M} {v : PV} {ws : Option (List Nat)} (h : ACalls P g args m (fun v2 m2 => v2 = v ∧ m2 = m')) (k : frO m m' ws) : (ER.val v m' ws).grants P g args m := by
 cases ws with
 | none => exact h
 | some l => exact ⟨h, k⟩
/-- The box that an operation writes. -/
def wrOf (op : Op) (f : F) : List Nat := match op with
 | .store _ a _ => (match ev f a with | .bp id _ => [id] | _ => [])
 | .mapUpdate _ x _ _ => (match ev f x with | .mp id => [id] | _ => [])
 | .entryStore _ x _ _ => (match ev f x with | .mp id => [id] | _ => [])
 | .call c => (match c.args.toList.map (ev f) with | [.mp id] => [id] | _ => [])
 | _ => []
theorem Fr.push (m : M) (c : List PV) : Fr m (m.push c) [] := by
 refine ⟨by unfold M.push M.nb; simp, fun id hi _ => ?_⟩
 rw [M.get_push, if_neg (Nat.ne_of_lt hi)]
theorem Fr.upd (m : M) (k : Nat) (c : List PV) : Fr m (m.upd k c) [k] := by
 refine ⟨by unfold M.upd M.nb; simp, fun id hi hn => ?_⟩
 rw [M.get_upd, if_neg (fun h => hn (by simp [h.1]))]
theorem Fr.toks {m m' : M} (h : m'.boxes = m.boxes) : Fr m m' [] := ⟨by unfold M.nb; rw [h]; exact Nat.le_refl _, fun id _ _ => by unfold M.get; rw [h]⟩
theorem Fr.weaken {m m' : M} (l : List Nat) (h : Fr m m' []) : Fr m m' l := ⟨h.1, fun id hi _ => h.2 id hi (by simp)⟩
set_option maxHeartbeats 4000000 in
theorem aStep_fr0 {P : Program} {mu : Bool} {op : Op} {f : F} {m m' : M} {p : Prop} {v : PV} (h : aStep0 P mu op f m = .ok p v m') : Fr m m' (wrOf op f) := by
 cases op <;> simp only [aStep0, reduceCtorEq] at h
 case store t a x =>
  split at h
  ·rename_i d id o hd he
   split at h
   ·cases h
    simp only [wrOf, he]
    exact Fr.upd _ _ _
   ·cases h
  ·cases h
 case entryStore t x sp y =>
  split at h
  ·rename_i id s he hes
   split at h
   ·cases h
    simp only [wrOf, he]
    exact Fr.upd _ _ _
   ·cases h
  ·cases h
 case mapUpdate t x i y =>
  split at h
  ·rename_i e id k ht he hi
   split at h
   ·cases h
    simp only [wrOf, he]
    exact Fr.upd _ _ _
   ·cases h
  ·cases h
 case call c =>
  obtain ⟨callee, args, ats⟩ := c
  cases callee with
  | builtin b =>
   simp only at h
   unfold aBuiltin at h
   split at h
   ·cases h; exact (Fr.refl _).weaken _
   ·(repeat' split at h) <;> cases h; exact (Fr.refl _).weaken _
   ·(repeat' split at h) <;> cases h; exact (Fr.refl _).weaken _
   ·cases h; exact (Fr.refl _).weaken _
   ·cases h; exact (Fr.refl _).weaken _
   ·rename_i o xs y hs
    (repeat' split at h) <;> cases h
    refine Fr.weaken _ (Fr.toks ?_)
    show (Own.use o m).boxes = m.boxes
    cases o <;> rfl
   ·rename_i id hs
    (repeat' split at h) <;> cases h
    simp only [wrOf, hs]
    exact Fr.upd _ _ _
   ·(repeat' split at h) <;> cases h; exact (Fr.refl _).weaken _
   ·cases h
  | value g => simp only at h; (repeat' split at h) <;> cases h
  | invoke g n => simp only at h; (repeat' split at h) <;> cases h
 case binOp op t x y yt =>
  (repeat' split at h) <;> (try unfold aNil at h) <;> (repeat' split at h) <;> first | (cases h; exact (Fr.refl _).weaken _) | (cases h; done)
 all_goals
  first
   | (cases h; exact (Fr.refl _).weaken _)
   | ((repeat' split at h) <;> first | (cases h; done) | (cases h; first | exact (Fr.refl _).weaken _ | exact (Fr.push _ _).weaken _))
theorem aStep_fr {P : Program} {mu : Bool} {op : Op} {f : F} {m m' : M} {p : Prop} {v : PV} (h : aStep P mu op f m = .ok p v m') : Fr m m' (wrOf op f) := by
 unfold aStep aOr at h
 cases hg : aGrow P mu op f m with
 | none => rw [hg] at h; exact aStep_fr0 h
 | some r =>
  rw [hg] at h
  simp only at h
  subst h
  cases op <;> simp only [aGrow, reduceCtorEq] at hg
  case makeSlice t l c =>
   simp only [Option.some.injEq] at hg
   split at hg
   ·unfold gMk at hg
    repeat' split at hg
    all_goals cases hg
    exact (Fr.push _ _).weaken _
   ·cases hg
  case indexAddr t x i =>
   unfold gIx at hg
   repeat' split at hg
   all_goals (simp only [Option.some.injEq, reduceCtorEq] at hg)
   repeat' split at hg
   all_goals cases hg
   exact (Fr.refl _).weaken _
  case binOp op t x y yt =>
   split at hg
   ·unfold gNil at hg
    split at hg <;> cases hg
   ·cases hg
  case slice t x lo hi mx =>
   unfold gSl at hg
   repeat' split at hg
   all_goals (simp only [Option.some.injEq, reduceCtorEq] at hg)
   repeat' split at hg
   all_goals cases hg
   exact (Fr.refl _).weaken _
  case call c =>
   obtain ⟨callee, args, ats⟩ := c
   cases callee with
   | builtin b =>
    simp only at hg
    unfold gBu at hg
    split at hg
    ·simp only [Option.some.injEq] at hg
     split at hg
     ·cases hg
      exact (Fr.refl _).weaken _
     ·cases hg
    ·simp only [Option.some.injEq] at hg
     split at hg
     ·unfold gApp at hg
      repeat' split at hg
      all_goals cases hg
     ·cases hg
    ·split at hg
     ·simp only [Option.some.injEq] at hg
      split at hg
      ·unfold gAppN at hg
       repeat' split at hg
       all_goals cases hg
      ·cases hg
     ·cases hg
    ·cases hg
   | value g => cases hg
   | invoke g n => cases hg
def CallOk (P : Program) (call : CallR) : Prop := ∀ g args m r, call g args m = some r → r.grants P g args m
def ER.to (K Z : PV → M → Prop) : ER → Prop
 | .val v m _ => K v m
 | .pan v m => Z v m
/-- A state, and which boxes turned. -/
structure MW where
 m : M
 w : Option (List Nat)
section
variable {P : Program} {call : CallR} {mu : List Nat} {Z : PV → M → Prop} {ops : Array Oper}
def eOp (P : Program) (call : CallR) (mu : List Nat) (o : Oper) (f : F) (m : M) : Option ER :=
 match aStep P (muOf mu o) o.op f m with
 | .ok _ v m' => if ePre P (muOf mu o) o.op f m then some (.val v m' (some (wrOf o.op f))) else none
 | .call g args => call g args m
 | .pan v => some (.pan v m)
 | .alt _ _ => none
 | .bad => none
theorem eOp_sound (hc : CallOk P call) {o : Oper} {f : F} {m : M} {r : ER} {K : PV → M → Prop} (h : eOp P call mu o f m = some r) (hr : r.to K Z) : aOp P mu Z o f m K := by
 unfold eOp at h
 unfold aOp
 cases hs : aStep P (muOf mu o) o.op f m with
 | ok p v m' =>
  simp only [hs] at h ⊢
  split at h
  ·rename_i hp
   cases h
   exact ⟨ePre_sound hs hp, hr⟩
  ·cases h
 | call g args =>
  simp only [hs] at h ⊢
  have := hc _ _ _ _ h
  cases r with
  | val v m' ws => exact ACallsZ.mono (ER.grants_val this).1 (fun v2 m2 ⟨e1, e2⟩ => by rw [e1, e2]; exact hr) (fun _ _ h => h.elim)
  | pan v m' => exact ACallsZ.mono this (fun _ _ h => h.elim) (fun v2 m2 ⟨e1, e2⟩ => by rw [e1, e2]; exact hr)
 | pan v => simp only [hs] at h ⊢; cases h; exact hr
 | alt p S => simp [hs] at h
 | bad => simp [hs] at h

theorem eOp_fr (hc : CallOk P call) {o : Oper} {f : F} {m m' : M} {v : PV} {ws : Option (List Nat)} (h : eOp P call mu o f m = some (.val v m' ws)) : frO m m' ws := by
 unfold eOp at h
 cases hs : aStep P (muOf mu o) o.op f m with
 | ok p v m' =>
  simp only [hs] at h
  split at h
  ·cases h
   exact aStep_fr hs
  ·cases h
 | call g args =>
  simp only [hs] at h
  exact (ER.grants_val (hc _ _ _ _ h)).2
 | pan v => simp [hs] at h
 | alt p S => simp [hs] at h
 | bad => simp [hs] at h
/-- How a region, or code, goes on. -/
inductive RR where
 | nxt (env : EN) (s : MW)
 | pan (v : PV) (m : M)
def RR.to (K : F → M → Prop) (Z : PV → M → Prop) : RR → Prop
 | .nxt env s => K (fl env) s.m
 | .pan v m => Z v m
def RR.fr (m0 : M) : RR → Prop
 | .nxt env s => frO m0 s.m s.w
 | .pan _ _ => True
def RR.bind (r : Option RR) (k : EN → MW → Option RR) : Option RR := match r with
 | some (.nxt env m) => k env m
 | r => r
def eDo (P : Program) (call : CallR) (mu : List Nat) (o : Oper) (env : EN) (s : MW) : Option RR :=
 match eOp P call mu o (fl env) s.m with
 | some (.val v m' ws) => (eput env o.dst v).map fun e => .nxt e ⟨m', wadd s.w ws⟩
 | some (.pan v m') => some (.pan v m')
 | none => none
def eOne (P : Program) (call : CallR) (mu : List Nat) (ops : Array Oper) (o : Oper) (env : EN) (m : MW) : Option RR :=
 match o.guard with
 | none => eDo P call mu o env m
 | some (j, want) => match guardA ops (fl env) j want with
  | some true => eDo P call mu o env m
  | some false => (eput env o.dst (.tp [])).map fun e => .nxt e m
  | none => none
theorem eDo_fr (hc : CallOk P call) {o : Oper} {env : EN} {s : MW} {r : RR} {m0 : M} (h : eDo P call mu o env s = some r) (hs : frO m0 s.m s.w) : r.fr m0 := by
 unfold eDo at h
 split at h
 ·rename_i v m' ws he
  simp only [Option.map_eq_some_iff] at h
  obtain ⟨e, _, rfl⟩ := h
  exact frO_add hs (eOp_fr hc he)
 ·cases h; trivial
 ·cases h
theorem eOne_fr (hc : CallOk P call) {o : Oper} {env : EN} {s : MW} {r : RR} {m0 : M} (h : eOne P call mu ops o env s = some r) (hs : frO m0 s.m s.w) : r.fr m0 := by
 unfold eOne at h
 split at h
 ·exact eDo_fr hc h hs
 ·split at h
  ·exact eDo_fr hc h hs
  ·simp only [Option.map_eq_some_iff] at h
   obtain ⟨e, _, rfl⟩ := h
   exact hs
  ·cases h
theorem eDo_sound (hc : CallOk P call) {o : Oper} {env : EN} {m : MW} {r : RR} {X : F → M → Prop} (h : eDo P call mu o env m = some r) (hr : r.to X Z) : aOp P mu Z o (fl env) m.m fun v m' => X (F.put (fl env) o.dst v) m' := by
 unfold eDo at h
 split at h
 ·rename_i v m' ws he
  cases hp : eput env o.dst v with
  | none => simp [hp] at h
  | some e =>
   simp only [hp, Option.map_some, Option.some.injEq] at h
   subst h
   refine eOp_sound hc he ?_
   show X (F.put (fl env) o.dst v) m'
   rw [eput_fl hp]
   exact hr
 ·rename_i v m' he
  cases h
  exact eOp_sound hc he hr
 ·cases h
def Z1 (P : Program) (mu : List Nat) (Z : PV → M → Prop) (ops : Array Oper) (o : Oper) (f : F) (m : M) (X : F → M → Prop) : Prop := match o.guard with
 | none => lenFact o.op f → aOp P mu Z o f m fun v m' => X (F.put f o.dst v) m'
 | some (j, want) => aGuard (guardA ops f j want) (aOp P mu Z o f m fun v m' => X (F.put f o.dst v) m') (X (F.put f o.dst (.tp [])) m)
theorem eOne_sound (hc : CallOk P call) {o : Oper} {env : EN} {m : MW} {r : RR} {X : F → M → Prop} (h : eOne P call mu ops o env m = some r) (hr : r.to X Z) : Z1 P mu Z ops o (fl env) m.m X := by
 unfold eOne at h
 unfold Z1
 cases hg : o.guard with
 | none =>
  simp only [hg] at h
  exact fun _ => eDo_sound hc h hr
 | some q =>
  obtain ⟨j, want⟩ := q
  simp only [hg] at h
  simp only
  cases hgu : guardA ops (fl env) j want with
  | none => simp [hgu] at h
  | some b =>
   simp only [hgu] at h
   cases b with
   | true => exact ⟨fun _ => eDo_sound hc h hr, (fun h => by cases h)⟩
   | false =>
    refine ⟨(fun h => by cases h), fun _ => ?_⟩
    cases hp : eput env o.dst (.tp []) with
    | none => simp [hp] at h
    | some e =>
     simp only [hp, Option.map_some, Option.some.injEq] at h
     subst h
     rw [eput_fl hp]
     exact hr
def eFuse (P : Program) (e : TypeId) (d : Tmp) (x : Operand) (env : EN) : Option EN :=
 match tdat P e with
 | some t => if (ev (fl env) x).settle.ok && decide ((ev (fl env) x).settle.cells.length = t.sz) then eput env (some d) (.ep (ev (fl env) x).settle.cells) else none
 | none => none
theorem eFuse_sound {e : TypeId} {d : Tmp} {x : Operand} {env env' : EN} {K : F → Prop} (h : eFuse P e d x env = some env') (hk : K (fl env')) : aFuse P e d x (fl env) K := by
 unfold eFuse at h
 unfold aFuse
 cases ht : tdat P e with
 | none => simp [ht] at h
 | some t =>
  simp only [ht] at h ⊢
  split at h
  ·rename_i hp
   simp only [Bool.and_eq_true, decide_eq_true_eq] at hp
   refine ⟨hp, ?_⟩
   rw [eput_fl h]
   exact hk
  ·cases h
def eOps (P : Program) (call : CallR) (mu : List Nat) (ops : Array Oper) : List Oper → EN → MW → Option RR
 | [], env, m => some (.nxt env m)
 | [o], env, m => eOne P call mu ops o env m
 | o :: o' :: rest, env, m => match fuse mu o o' with
  | some (e, d, x) => (match eFuse P e d x env with
   | some env' => eOps P call mu ops rest env' m
   | none => none)
  | none => (match rest with
   | o2 :: rest2 => (match fuse3 mu o o' o2 with
    | some ((e, d, x), (y, d1)) => (match eput env (some d1) (ev (fl env) y) with
     | some env1 => (match eFuse P e d x env1 with
      | some env' => eOps P call mu ops rest2 env' m
      | none => none)
     | none => none)
    | none => RR.bind (eOne P call mu ops o env m) fun env' m' => eOps P call mu ops (o' :: o2 :: rest2) env' m')
   | [] => RR.bind (eOne P call mu ops o env m) fun env' m' => eOps P call mu ops [o'] env' m')
theorem RR.bind_some {r : Option RR} {k : EN → MW → Option RR} {q : RR} (h : RR.bind r k = some q) : (∃ env m, r = some (.nxt env m) ∧ k env m = some q) ∨ (∃ v m, r = some (.pan v m) ∧ q = .pan v m) := by
 unfold RR.bind at h
 split at h
 ·exact .inl ⟨_, _, rfl, h⟩
 ·rename_i hr
  subst h
  cases q with
  | nxt e m => exact absurd rfl (hr e m)
  | pan v m => exact .inr ⟨v, m, rfl, rfl⟩
theorem eOps_fr (hc : CallOk P call) {m0 : M} : ∀ (l : List Oper) {env : EN} {s : MW} {r : RR}, eOps P call mu ops l env s = some r → frO m0 s.m s.w → r.fr m0
 | [], env, m, r, h, hs => by cases h; exact hs
 | [o], env, m, r, h, hs => by
  simp only [eOps] at h
  exact eOne_fr hc h hs
 | [o, o'], env, m, r, h, hs => by
  rw [eOps.eq_def] at h
  simp only at h
  split at h
  ·split at h
   ·exact eOps_fr hc [] h hs
   ·cases h
  ·rcases RR.bind_some h with ⟨env', m', h1, h2⟩ | ⟨v, m', h1, rfl⟩
   ·exact eOps_fr hc [o'] h2 (eOne_fr hc h1 hs)
   ·trivial
 | o :: o' :: o2 :: rest2, env, m, r, h, hs => by
  rw [eOps.eq_def] at h
  simp only at h
  split at h
  ·split at h
   ·exact eOps_fr hc (o2 :: rest2) h hs
   ·cases h
  ·split at h
   ·split at h
    ·split at h
     ·exact eOps_fr hc rest2 h hs
     ·cases h
    ·cases h
   ·rcases RR.bind_some h with ⟨env', m', h1, h2⟩ | ⟨v, m', h1, rfl⟩
    ·exact eOps_fr hc (o' :: o2 :: rest2) h2 (eOne_fr hc h1 hs)
    ·trivial
theorem eOps_sound (hc : CallOk P call) {K : F → M → Prop} : ∀ (l : List Oper) {env : EN} {m : MW} {r : RR}, eOps P call mu ops l env m = some r → r.to K Z → aOps P mu Z ops l K (fl env) m.m
 | [], env, m, r, h, hr => by cases h; exact hr
 | [o], env, m, r, h, hr => by
  simp only [eOps] at h
  rw [aOps.eq_def]
  exact eOne_sound hc h hr
 | [o, o'], env, m, r, h, hr => by
  rw [eOps.eq_def] at h
  simp only at h
  rw [aOps.eq_def]
  simp only
  cases hfu : fuse mu o o' with
  | some q =>
   obtain ⟨e, d, x⟩ := q
   simp only [hfu] at h ⊢
   split at h
   ·rename_i env' he
    exact eFuse_sound he (eOps_sound hc [] h hr)
   ·cases h
  | none =>
   simp only [hfu] at h ⊢
   rcases RR.bind_some h with ⟨env', m', h1, h2⟩ | ⟨v, m', h1, rfl⟩
   ·exact eOne_sound (X := fun f m => aOps P mu Z ops [o'] K f m) hc h1 (eOps_sound hc [o'] h2 hr)
   ·exact eOne_sound (X := fun f m => aOps P mu Z ops [o'] K f m) hc h1 hr
 | o :: o' :: o2 :: rest2, env, m, r, h, hr => by
  rw [eOps.eq_def] at h
  simp only at h
  rw [aOps.eq_def]
  simp only
  cases hfu : fuse mu o o' with
  | some q =>
   obtain ⟨e, d, x⟩ := q
   simp only [hfu] at h ⊢
   split at h
   ·rename_i env' he
    exact eFuse_sound he (eOps_sound hc (o2 :: rest2) h hr)
   ·cases h
  | none =>
   simp only [hfu] at h ⊢
   cases hf3 : fuse3 mu o o' o2 with
   | some q =>
    obtain ⟨⟨e, d, x⟩, ⟨y, d1⟩⟩ := q
    simp only [hf3] at h ⊢
    split at h
    ·rename_i env1 he1
     split at h
     ·rename_i env' he
      rw [eput_fl he1]
      exact eFuse_sound he (eOps_sound hc rest2 h hr)
     ·cases h
    ·cases h
   | none =>
    simp only [hf3] at h ⊢
    rcases RR.bind_some h with ⟨env', m', h1, h2⟩ | ⟨v, m', h1, rfl⟩
    ·exact eOne_sound (X := fun f m => aOps P mu Z ops (o' :: o2 :: rest2) K f m) hc h1 (eOps_sound hc (o' :: o2 :: rest2) h2 hr)
    ·exact eOne_sound (X := fun f m => aOps P mu Z ops (o' :: o2 :: rest2) K f m) hc h1 hr
end
end Go.Proofs.YtohgdopfjkjppaaGreatDoor

/-
 Code on values that are known: regions that draw, loops; what it ends with, and that the machine's rules grant it.
-/
set_option linter.unusedVariables false
set_option linter.unusedSimpArgs false
namespace Go.Proofs.YtohgdopfjkjppaaGreatDoor
open Go Go.RowKit

/-! ### Are two values one? -/
def veq : Value → Value → Bool
 | .bool a, .bool b => a == b
 | .int k a, .int k' b => decide (k = k') && a == b
 | .string a, .string b => decide (a.data.toList = b.data.toList)
 | .nilIface, .nilIface => true
 | .nilFunc, .nilFunc => true
 | .pointer none, .pointer none => true
 | .map none, .map none => true
 | _, _ => false
theorem veq_eq {x y : Value} (h : veq x y = true) : x = y := by
 unfold veq at h
 split at h
 ·simpa using h
 ·simp only [Bool.and_eq_true, decide_eq_true_eq, beq_iff_eq] at h
  rw [h.1, h.2]
 ·rename_i a b
  simp only [decide_eq_true_eq] at h
  obtain ⟨⟨a⟩⟩ := a
  obtain ⟨⟨b⟩⟩ := b
  simp only at h
  rw [h]
 ·rfl
 ·rfl
 ·rfl
 ·rfl
 ·cases h
def Own.eqB : Own → Own → Bool
 | .no, .no => true
 | .full, .full => true
 | .tok a, .tok b => a == b
 | _, _ => false
theorem Own.eqB_eq {x y : Own} (h : x.eqB y = true) : x = y := by
 cases x <;> cases y <;> simp_all [Own.eqB]
mutual
def peq : PV → PV → Bool
 | .v x, .v y => veq x y
 | .sl o xs, .sl o' ys => o.eqB o' && peqs xs ys
 | .ag xs, .ag ys => peqs xs ys
 | .tp xs, .tp ys => peqs xs ys
 | .bp i o, .bp i' o' => i == i' && o == o'
 | .mp i, .mp i' => i == i'
 | .it i, .it i' => i == i'
 | .bs i o l, .bs i' o' l' => i == i' && o == o' && l == l'
 | .ep xs, .ep ys => peqs xs ys
 | .fn (.func g) a b, .fn (.func g') a' b' => g == g' && peqs a a' && peqs b b'
 | .ifc t x, .ifc t' y => t == t' && peq x y
 | _, _ => false
def peqs : List PV → List PV → Bool
 | [], [] => true
 | x :: l, y :: r => peq x y && peqs l r
 | _, _ => false
end
mutual
theorem peq_eq : ∀ (x y : PV), peq x y = true → x = y
 | .v x, y, h => by
  cases y <;> simp only [peq, Bool.false_eq_true] at h
  rw [veq_eq h]
 | .sl o xs, y, h => by
  cases y <;> simp only [peq, Bool.false_eq_true, Bool.and_eq_true] at h
  rw [Own.eqB_eq h.1, peqs_eq _ _ h.2]
 | .ag xs, y, h => by
  cases y <;> simp only [peq, Bool.false_eq_true] at h
  rw [peqs_eq _ _ h]
 | .tp xs, y, h => by
  cases y <;> simp only [peq, Bool.false_eq_true] at h
  rw [peqs_eq _ _ h]
 | .bp i o, y, h => by
  cases y <;> simp only [peq, Bool.false_eq_true, Bool.and_eq_true, beq_iff_eq] at h
  rw [h.1, h.2]
 | .bs i o l, y, h => by
  cases y <;> simp only [peq, Bool.false_eq_true, Bool.and_eq_true, beq_iff_eq] at h
  rw [h.1.1, h.1.2, h.2]
 | .gs i l c, y, h => by
  cases y <;> simp only [peq, Bool.false_eq_true] at h
 | .mp i, y, h => by
  cases y <;> simp only [peq, Bool.false_eq_true, beq_iff_eq] at h
  rw [h]
 | .it i, y, h => by
  cases y <;> simp only [peq, Bool.false_eq_true, beq_iff_eq] at h
  rw [h]
 | .ep xs, y, h => by
  cases y <;> simp only [peq, Bool.false_eq_true] at h
  rw [peqs_eq _ _ h]
 | .fn g a b, y, h => by
  cases y <;> first
   | (cases g <;> simp only [peq, Bool.false_eq_true] at h; done)
   | skip
  rename_i g' a' b'
  cases g <;> cases g' <;> simp only [peq, Bool.false_eq_true, Bool.and_eq_true, beq_iff_eq] at h
  rw [h.1.1, peqs_eq _ _ h.1.2, peqs_eq _ _ h.2]
 | .ifc t x, y, h => by
  cases y <;> simp only [peq, Bool.false_eq_true, Bool.and_eq_true, beq_iff_eq] at h
  rw [h.1, peq_eq _ _ h.2]
 | .junk, y, h => by
  cases y <;> simp only [peq, Bool.false_eq_true] at h
theorem peqs_eq : ∀ (x y : List PV), peqs x y = true → x = y
 | [], [], _ => rfl
 | x :: l, y :: r, h => by
  simp only [peqs, Bool.and_eq_true] at h
  rw [peq_eq _ _ h.1, peqs_eq _ _ h.2]
 | [], _ :: _, h => by simp [peqs] at h
 | _ :: _, [], h => by simp [peqs] at h
end
def beq_ (a b : Option (List PV)) : Bool := match a, b with
 | none, none => true
 | some x, some y => peqs x y
 | _, _ => false
theorem beq_eq {a b : Option (List PV)} (h : beq_ a b = true) : a = b := by
 unfold beq_ at h
 split at h
 ·rfl
 ·rw [peqs_eq _ _ h]
 ·cases h

/-! ### Regions that draw -/
def readBox (op : Op) (f : F) : Option Nat := match op with
 | .load _ a => (match ev f a with | .bp id _ => some id | _ => none)
 | .lookup _ x _ _ => (match ev f x with | .mp id => some id | _ => none)
 | .call c => (match c.args.toList.map (ev f) with | [.mp id] => some id | _ => none)
 | _ => none
section
variable {P : Program} {call : CallR} {mu : List Nat} {Z : PV → M → Prop} {ops : Array Oper}
set_option maxHeartbeats 2000000 in
theorem quiet_same0 {o : Oper} {f : F} {m m1 m2 : M} {p : Prop} {v : PV} (hq : isEff mu o = false) (h : aStep0 P (muOf mu o) o.op f m = .ok p v m1) (hg : ∀ id, readBox o.op f = some id → m2.get id = m.get id) : aStep0 P (muOf mu o) o.op f m2 = .ok p v m2 := by
 obtain ⟨dst, op, ty, pos, after, guard⟩ := o
 simp only at h hg ⊢
 unfold isEff at hq
 cases op <;> simp only [aStep0, reduceCtorEq] at h ⊢ <;> (try simp only at hq)
 case call c =>
  obtain ⟨callee, args, ats⟩ := c
  cases callee with
  | builtin b =>
   simp only at h hq ⊢
   simp only [readBox] at hg
   generalize args.toList.map (ev f) = as at h hg ⊢
   unfold aBuiltin at h ⊢
   cases b <;> (try (simp only [reduceCtorEq] at hq; done))
   all_goals (split at h <;> simp_all)
   all_goals (split at h <;> simp_all)
  | value g => exact absurd hq (by simp)
  | invoke g n => exact absurd hq (by simp)
 case lookup t x i ok =>
  split at h
  ·rename_i e id k ht hev hei
   have := hg id (by simp [readBox, hev])
   try simp only [ht, hev, hei]
   rw [this]
   split at h
   ·rename_i d ks vs hd hc
    cases h
    try simp only [hd, hc]
   ·cases h
  ·cases h
 case load t a =>
  cases hd : tdat P t with
  | none => simp [hd] at h
  | some d =>
   cases he : ev f a <;> simp only [hd, he, reduceCtorEq] at h ⊢
   case ep xs => cases h; rfl
   case bp id o =>
    have := hg id (by simp [readBox, he])
    rw [this]
    split at h
    ·rename_i c hc
     cases h
     rfl
    ·cases h
 all_goals first
  | (simp only [reduceCtorEq] at hq; done)
  | (cases h; rfl; done)
  | (rw [hq] at h ⊢; simp only [Bool.false_eq_true, if_false] at h ⊢; cases h; rfl; done)
  | (rw [hq] at h ⊢; simp only [Bool.false_eq_true, if_false] at h ⊢; (repeat' split at h) <;> cases h <;> simp_all; done)
  | ((repeat' split at h) <;> (try (unfold aNil at h ⊢)) <;> (repeat' split at h) <;> cases h <;> simp_all; done)
theorem quiet_grow {o : Oper} {f : F} {m : M} (hq : isEff mu o = false) (m2 : M) : (aGrow P (muOf mu o) o.op f m = none → aGrow P (muOf mu o) o.op f m2 = none) ∧ ∀ p v m1, aGrow P (muOf mu o) o.op f m = some (.ok p v m1) → aGrow P (muOf mu o) o.op f m2 = some (.ok p v m2) := by
 obtain ⟨dst, op, ty, pos, after, guard⟩ := o
 unfold isEff at hq
 cases op <;> simp only [aGrow] <;> (try simp only at hq)
 case makeSlice t l c => exact absurd hq (by simp)
 case indexAddr t x i =>
  unfold gIx
  split
  ·refine ⟨fun h => by simp at h, fun p v m1 h => ?_⟩
   simp only [Option.some.injEq] at h ⊢
   (repeat' split at h) <;> cases h <;> simp_all
  ·exact ⟨fun _ => by first | rfl | trivial, fun p v m1 h => by first | cases h | simp at h⟩
 case binOp op t x y yt =>
  split
  ·unfold gNil
   split
   ·exact ⟨fun h => by simp at h, fun p v m1 h => by simp at h⟩
   ·exact ⟨fun _ => by first | rfl | trivial, fun p v m1 h => by first | cases h | simp at h⟩
  ·exact ⟨fun _ => by first | rfl | trivial, fun p v m1 h => by first | cases h | simp at h⟩
 case slice t x lo hi mx =>
  unfold gSl
  split
  ·refine ⟨fun h => by simp at h, fun p v m1 h => ?_⟩
   simp only [Option.some.injEq] at h ⊢
   (repeat' split at h) <;> cases h <;> simp_all
  ·exact ⟨fun _ => by first | rfl | trivial, fun p v m1 h => by first | cases h | simp at h⟩
 case call c =>
  obtain ⟨callee, args, ats⟩ := c
  cases callee with
  | builtin b =>
   simp only at hq ⊢
   generalize args.toList.map (ev f) = as
   unfold gBu
   cases b <;> (try (simp only [reduceCtorEq] at hq; done))
   all_goals (try exact ⟨fun _ => by first | rfl | trivial, fun p v m1 h => by first | cases h | simp at h⟩)
   split
   ·refine ⟨fun h => by simp at h, fun p v m1 h => ?_⟩
    simp only [Option.some.injEq] at h ⊢
    (repeat' split at h) <;> cases h <;> simp_all
   ·rename_i heq
    cases heq
   ·rename_i heq
    cases heq
   ·exact ⟨fun _ => by first | rfl | trivial, fun p v m1 h => by first | cases h | simp at h⟩
  | value g => exact ⟨fun _ => by first | rfl | trivial, fun p v m1 h => by first | cases h | simp at h⟩
  | invoke g n => exact ⟨fun _ => by first | rfl | trivial, fun p v m1 h => by first | cases h | simp at h⟩
 all_goals exact ⟨fun _ => by first | rfl | trivial, fun p v m1 h => by first | cases h | simp at h⟩
theorem quiet_same {o : Oper} {f : F} {m m1 m2 : M} {p : Prop} {v : PV} (hq : isEff mu o = false) (h : aStep P (muOf mu o) o.op f m = .ok p v m1) (hg : ∀ id, readBox o.op f = some id → m2.get id = m.get id) : aStep P (muOf mu o) o.op f m2 = .ok p v m2 := by
 obtain ⟨q1, q2⟩ := quiet_grow (P := P) (f := f) (m := m) hq m2
 unfold aStep aOr at h ⊢
 cases ha : aGrow P (muOf mu o) o.op f m with
 | none => rw [ha] at h; rw [q1 ha]; exact quiet_same0 hq h hg
 | some r =>
  rw [ha] at h
  simp only at h
  subst h
  rw [q2 _ _ _ ha]

/-- The boxes that quiet loads of a region read. -/
def eCol (P : Program) (call : CallR) (mu : List Nat) (ops : Array Oper) : List Oper → EN → M → List Nat
 | [], _, _ => []
 | o :: rest, env, m =>
  let go : Unit → List Nat := fun _ => if isEff mu o then (match eOp P call mu o (fl env) m with
      | some (.val v m' _) => (match eput env o.dst v with | some e => eCol P call mu ops rest e m' | none => [])
      | _ => [])
   else (match aStep P (muOf mu o) o.op (fl env) m with
    | .ok _ v _ => (match eput env o.dst v with | some e => (match readBox o.op (fl env) with | some id => id :: eCol P call mu ops rest e m | none => eCol P call mu ops rest e m) | none => [])
    | _ => [])
  match o.guard with
  | none => go ()
  | some (j, want) => match guardA ops (fl env) j want with
   | some true => go ()
   | some false => (match eput env o.dst (.tp []) with | some e => eCol P call mu ops rest e m | none => [])
   | none => []
def rdOk (R : List Nat) (op : Op) (f : F) : Bool := match readBox op f with
 | some id => R.contains id
 | none => true
/-- A box that a step from m to m' leaves as m0 has it. -/
def frB (m m' m0 : M) (ws : Option (List Nat)) (id : Nat) : Bool := match ws with
 | some l => (decide (id < m.nb) && !l.contains id) || beq_ (m'.get id) (m0.get id)
 | none => beq_ (m'.get id) (m0.get id)
theorem frB_spec {m m' m0 : M} {ws : Option (List Nat)} {id : Nat} (h : frB m m' m0 ws id = true) (hf : frO m m' ws) (he : m.get id = m0.get id) : m'.get id = m0.get id := by
 cases ws with
 | none => exact beq_eq h
 | some l =>
  simp only [frB, Bool.or_eq_true, Bool.and_eq_true, decide_eq_true_eq, Bool.not_eq_true', List.contains_eq_mem, decide_eq_false_iff_not] at h
  rcases h with ⟨h1, h2⟩ | h
  ·exact (hf.2 id h1 h2).trans he
  ·exact beq_eq h
def eLexD (P : Program) (call : CallR) (mu : List Nat) (ops : Array Oper) (R : List Nat) (m0 : M) (k : Nat) (o : Oper) (env : EN) (s : MW) : Option RR :=
 if isEff mu o then (match eOp P call mu o (fl env) s.m with
  | some (.val v m' ws) => if R.all (fun id => frB s.m m' m0 ws id) then (eput env o.dst v).map fun e => .nxt e ⟨m', wadd s.w ws⟩ else none
  | some (.pan v m') => if behind ops k then some (.pan v m') else none
  | none => none)
 else (match aStep P (muOf mu o) o.op (fl env) s.m with
  | .ok _ v _ => if ePre P (muOf mu o) o.op (fl env) s.m && rdOk R o.op (fl env) then (eput env o.dst v).map fun e => .nxt e s else none
  | _ => none)
def eLex (P : Program) (call : CallR) (mu : List Nat) (ops : Array Oper) (R : List Nat) (m0 : M) : Nat → List Oper → EN → MW → Option RR
 | _, [], env, m => some (.nxt env m)
 | k, o :: rest, env, m => match o.guard with
  | none => (match eLexD P call mu ops R m0 k o env m with | some (.nxt e m') => eLex P call mu ops R m0 (k + 1) rest e m' | r => r)
  | some (j, want) => match guardA ops (fl env) j want with
   | some true => (match eLexD P call mu ops R m0 k o env m with | some (.nxt e m') => eLex P call mu ops R m0 (k + 1) rest e m' | r => r)
   | some false => (match eput env o.dst (.tp []) with | some e => eLex P call mu ops R m0 (k + 1) rest e m | none => none)
   | none => none
def SR (R : List Nat) (m0 m : M) : Prop := ∀ id ∈ R, m.get id = m0.get id
theorem eLexD_fr (hc : CallOk P call) {R : List Nat} {m0 mb : M} {k : Nat} {o : Oper} {env : EN} {s : MW} {r : RR} (h : eLexD P call mu ops R m0 k o env s = some r) (hs : frO mb s.m s.w) : r.fr mb := by
 unfold eLexD at h
 split at h
 ·split at h
  ·rename_i v m1 ws hop
   split at h
   ·simp only [Option.map_eq_some_iff] at h
    obtain ⟨e, _, rfl⟩ := h
    exact frO_add hs (eOp_fr hc hop)
   ·cases h
  ·split at h
   ·cases h; trivial
   ·cases h
  ·cases h
 ·split at h
  ·split at h
   ·simp only [Option.map_eq_some_iff] at h
    obtain ⟨e, _, rfl⟩ := h
    exact hs
   ·cases h
  ·cases h
theorem eLexD_sound (hc : CallOk P call) {R : List Nat} {m0 : M} {k : Nat} {o : Oper} {env : EN} {m : MW} {r : RR} {X : F → M → Prop} (h : eLexD P call mu ops R m0 k o env m = some r) (hS : SR R m0 m.m)
    (hx : ∀ e m', r = .nxt e m' → SR R m0 m'.m → X (fl e) m'.m) (hz : ∀ v m', r = .pan v m' → Z v m') :
    if isEff mu o then aOp P mu (zOf Z ops k) o (fl env) m.m (fun v m' => SR R m0 m' ∧ X (F.put (fl env) o.dst v) m') else ∃ v, aQuiet P mu o (fl env) (SR R m0) v ∧ X (F.put (fl env) o.dst v) m.m := by
 unfold eLexD at h
 split at h
 ·rename_i he
  rw [if_pos he]
  split at h
  ·rename_i v m1 ws hop
   split at h
   ·rename_i hR
    cases hp : eput env o.dst v with
    | none => simp [hp] at h
    | some e' =>
     simp only [hp, Option.map_some, Option.some.injEq] at h
     subst h
     have hS' : SR R m0 m1 := fun id hid => frB_spec (List.all_eq_true.1 hR id hid) (eOp_fr hc hop) (hS id hid)
     refine eOp_sound (Z := zOf Z ops k) hc hop ?_
     show SR R m0 m1 ∧ X (F.put (fl env) o.dst v) m1
     rw [eput_fl hp]
     exact ⟨hS', hx _ _ rfl hS'⟩
   ·cases h
  ·rename_i v m1 hop
   split at h
   ·rename_i hb
    cases h
    refine eOp_sound (Z := zOf Z ops k) hc hop ?_
    show zOf Z ops k v m1
    unfold zOf
    rw [if_pos hb]
    exact hz _ _ rfl
   ·cases h
  ·cases h
 ·rename_i he
  rw [if_neg he]
  have heq : isEff mu o = false := by simpa using he
  cases hs : aStep P (muOf mu o) o.op (fl env) m.m with
  | ok p v m1 =>
   simp only [hs] at h
   split at h
   ·rename_i hR
    simp only [Bool.and_eq_true] at hR
    cases hp : eput env o.dst v with
    | none => simp [hp] at h
    | some e' =>
     simp only [hp, Option.map_some, Option.some.injEq] at h
     subst h
     refine ⟨v, fun m2 h2 => ⟨p, quiet_same heq hs fun id hid => ?_, ePre_sound hs hR.1⟩, ?_⟩
     ·have := hR.2
      unfold rdOk at this
      rw [hid] at this
      have hmem : id ∈ R := by simpa using this
      rw [h2 id hmem, hS id hmem]
     ·rw [eput_fl hp]; exact hx _ _ rfl hS
   ·cases h
  | _ => simp [hs] at h
theorem eLex_fr (hc : CallOk P call) {R : List Nat} {m0 mb : M} : ∀ (l : List Oper) {k : Nat} {env : EN} {s : MW} {r : RR}, eLex P call mu ops R m0 k l env s = some r → frO mb s.m s.w → r.fr mb
 | [], k, env, s, r, h, hs => by
  simp only [eLex, Option.some.injEq] at h
  subst h
  exact hs
 | o :: rest, k, env, s, r, h, hs => by
  rw [eLex.eq_def] at h
  simp only at h
  have body : (match eLexD P call mu ops R m0 k o env s with | some (.nxt e m') => eLex P call mu ops R m0 (k + 1) rest e m' | r => r) = some r → r.fr mb := fun h => by
   split at h
   ·rename_i e1 m1 hd
    exact eLex_fr hc rest h (eLexD_fr hc hd hs)
   ·exact eLexD_fr hc h hs
  split at h
  ·exact body h
  ·split at h
   ·exact body h
   ·split at h
    ·exact eLex_fr hc rest h hs
    ·cases h
   ·cases h
theorem eLex_sound (hc : CallOk P call) {R : List Nat} {m0 : M} {K : F → M → Prop} : ∀ (l : List Oper) {k : Nat} {env : EN} {m : MW} {r : RR}, (∀ j, l[j]? = ops[k + j]?) → eLex P call mu ops R m0 k l env m = some r → SR R m0 m.m → r.to K Z → aLexZ P mu Z ops (SR R m0) K (List.range' k l.length) (fl env) m.m
 | [], k, env, m, r, _, h, hS, hk => by
  simp only [eLex, Option.some.injEq] at h
  subst h
  exact hk
 | o :: rest, k, env, m, r, hl, h, hS, hk => by
  have h0 : ops[k]? = some o := by simpa using (hl 0).symm
  have hl' : ∀ j, rest[j]? = ops[k + 1 + j]? := fun j => by have := hl (j + 1); simpa [Nat.add_assoc, Nat.add_comm 1 j] using this
  rw [eLex.eq_def] at h
  simp only at h
  simp only [List.length_cons, List.range'_succ, aLexZ, h0, aG]
  have body : (match eLexD P call mu ops R m0 k o env m with | some (.nxt e m') => eLex P call mu ops R m0 (k + 1) rest e m' | r => r) = some r →
      (if isEff mu o then aOp P mu (zOf Z ops k) o (fl env) m.m (fun v m' => SR R m0 m' ∧ aLexZ P mu Z ops (SR R m0) K (List.range' (k + 1) rest.length) (F.put (fl env) o.dst v) m') else ∃ v, aQuiet P mu o (fl env) (SR R m0) v ∧ aLexZ P mu Z ops (SR R m0) K (List.range' (k + 1) rest.length) (F.put (fl env) o.dst v) m.m) := fun h => by
   split at h
   ·rename_i e1 m1 hd
    exact eLexD_sound (X := fun f m => aLexZ P mu Z ops (SR R m0) K (List.range' (k + 1) rest.length) f m) hc hd hS (fun e m' he hS' => by cases he; exact eLex_sound hc rest hl' h hS' hk) (fun v m' he => by cases he)
   ·rename_i hne
    refine eLexD_sound (X := fun f m => aLexZ P mu Z ops (SR R m0) K (List.range' (k + 1) rest.length) f m) hc h hS (fun e m' he hS' => ?_) (fun v m' he => ?_)
    ·subst he; exact absurd h (hne e m')
    ·subst he; exact hk
  cases hg : o.guard with
  | none =>
   simp only [hg] at h ⊢
   exact body h
  | some q =>
   obtain ⟨j, want⟩ := q
   simp only [hg] at h ⊢
   cases hgu : guardA ops (fl env) j want with
   | none => simp [hgu] at h
   | some b =>
    simp only [hgu] at h
    cases b with
    | true =>
     simp only at h
     exact ⟨fun _ => body h, (fun h => by cases h)⟩
    | false =>
     simp only at h
     refine ⟨(fun h => by cases h), fun _ => ?_⟩
     split at h
     ·rename_i e1 hp
      rw [eput_fl hp]
      exact eLex_sound hc rest hl' h hS hk
     ·cases h
end
end Go.Proofs.YtohgdopfjkjppaaGreatDoor

/-
 A function that defers one closure ahead of its work: what the closure does where the work is done, and where it panics.
-/
set_option linter.unusedVariables false
set_option linter.unusedSimpArgs false
namespace Go.Proofs.YtohgdopfjkjppaaGreatDoor
open Go Go.RowKit

/-- What a frame holds as it is entered. -/
theorem enter_fr {G : Ghost} {w : World} {args : List PV} {vs : List Value} {k : Nat} (hl : args.length = vs.length) (hr : ∀ j (h1 : j < args.length) (h2 : j < vs.length), Rep G w args[j] vs[j]) : FR G w (F.args args) (vs.toArray ++ Array.replicate (k - vs.toArray.size) undef) := by
 intro t
 have e : ((vs.toArray ++ Array.replicate (k - vs.toArray.size) undef).getD t undef) = vs.getD t undef := by
  by_cases ht : t < vs.length
  ·simp [List.getD, Array.getElem?_append, ht]
  ·simp only [List.getD, Array.getD_eq_getD_getElem?, Array.getElem?_append, List.size_toArray, ht, if_false, List.getElem?_eq_none (Nat.le_of_not_lt ht)]
   simp only [Array.getElem?_replicate]
   split <;> rfl
 simp only [e, F.args]
 by_cases ht : t < args.length
 ·have := hr t ht (hl ▸ ht)
  simpa [List.getD, ht, hl ▸ ht] using this
 ·simp only [List.getD, List.getElem?_eq_none (Nat.le_of_not_lt ht), List.getElem?_eq_none (Nat.le_of_not_lt (hl ▸ ht)), Option.getD_none]
  exact .tp [] [] rfl (fun j h => by simp at h)
/-- What is handed back. -/
theorem res_fin {P : Program} {fn : Func} {tmps : Array Value} {f : F} {m m' : M} {G G' : Ghost} {w w' : World} {R : PV → M → Prop} (hI : Inv G m w) (hE : Ext G w G' w') (hI' : Inv G' m' w') (hF : FR G' w' f tmps)
    (ha : aRes P f m' fn.results.toList (fun vs => ∃ v' m'', Leave m m' (pack vs) v' m'' ∧ R v' m'')) : ∃ y, (results fn tmps).run P w' = .ok y w' ∧ ∃ v m'' G'', R v m'' ∧ Rep G'' w' v y ∧ Inv G'' m'' w' ∧ Ext G w G'' w' := by
 obtain ⟨us, ys, ⟨v', m'', hlv, hR⟩, h2, h3, h4⟩ := aRes_sound hI' hF _ ha
 have hpk : ∃ y, Rep G' w' (pack us) y ∧ (results fn tmps).run P w' = .ok y w' := by
  have e : (fn.results.mapM (resF tmps)).run P w' = .ok ys.toArray w' := by
   rw [Array.mapM_eq_mapM_toList, ← bind_pure_comp, Sem.run_bind, h4]
   rfl
  by_cases h1 : ys.length = 1
  ·obtain ⟨y, rfl⟩ := List.length_eq_one_iff.1 h1
   obtain ⟨u, rfl⟩ := List.length_eq_one_iff.1 (h2.trans h1)
   refine ⟨y, by simpa [pack] using h3 0 (by simp) (by simp), ?_⟩
   rw [results_run, e]
   rfl
  ·refine ⟨.tuple ys.toArray, ?_, ?_⟩
   ·have : pack us = .tp us := by
      cases us with
      | nil => rfl
      | cons u us =>
       cases us with
       | nil => simp at h2; omega
       | cons u' us => rfl
    rw [this]
    exact .tp us ys h2 h3
   ·rw [results_run, e]
    simp only [Result.andThen_ok, List.size_toArray, h1, dite_false]
 obtain ⟨y, hy1, hy2⟩ := hpk
 obtain ⟨G'', g1, g2, g3⟩ := hlv.sound hI hE hI' hy1
 exact ⟨y, hy2, v', m'', G'', hR, g1, g2, g3⟩

/-- A closure that is run as its frame returns; as its frame panics with a value, and takes that up. -/
def DRet (P : Program) (h : FuncId) (args : List PV) (m : M) (Q : M → Prop) : Prop := ∀ (G : Ghost) (w : World) (vs : List Value), Inv G m w → args.length = vs.length → (∀ j (h1 : j < args.length) (h2 : j < vs.length), Rep G w args[j] vs[j]) →
 CallsD P h vs.toArray .returning w fun e u' w' => e = .returned (.tuple #[]) ∧ u' = .returning ∧ ∃ m' G', Q m' ∧ Inv G' m' w' ∧ Ext G w G' w'
def DPan (P : Program) (h : FuncId) (args : List PV) (v : PV) (m : M) (Q : M → Prop) : Prop := ∀ (G : Ghost) (w : World) (vs : List Value) (y : Value), Inv G m w → args.length = vs.length → (∀ j (h1 : j < args.length) (h2 : j < vs.length), Rep G w args[j] vs[j]) → Rep G w v y →
 CallsD P h vs.toArray (.panicking [{ v := y, recovered := false }]) w fun e u' w' => e = .returned (.tuple #[]) ∧ u' = .panicking [{ v := y, recovered := true }] ∧ ∃ m' G', Q m' ∧ Inv G' m' w' ∧ Ext G w G' w'

/-- Some slots of a frame are known. -/
def F.only (ks : List Nat) (g : F) : F := fun t => if t ∈ ks then g t else .junk
end Go.Proofs.YtohgdopfjkjppaaGreatDoor
