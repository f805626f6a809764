/-
  Code on values that are known: regions that draw, loops; what it ends with, and that the machine's rules grant it.
-/
import Derived.Test.YtfemdelaciccmaaAbRun2
import Derived.Test.YtfemdelaciccmaaAbWp
set_option linter.unusedVariables false
set_option linter.unusedSimpArgs false
namespace Go.Proofs.Ytfemdelaciccmaa
open Go Go.RowKit

/-! ### Are two values one? -/
def veq : Value → Value → Bool
  | .bool a, .bool b => a == b
  | .int k a, .int k' b => decide (k = k') && a == b
  | .string a, .string b => decide (a.data.toList = b.data.toList)
  | .nilIface, .nilIface => true
  | .nilFunc, .nilFunc => true
  | .pointer none, .pointer none => true
  | .map none, .map none => true
  | _, _ => false
theorem veq_eq {x y : Value} (h : veq x y = true) : x = y := by
  unfold veq at h
  split at h
  · simpa using h
  · simp only [Bool.and_eq_true, decide_eq_true_eq, beq_iff_eq] at h
    rw [h.1, h.2]
  · rename_i a b
    simp only [decide_eq_true_eq] at h
    obtain ⟨⟨a⟩⟩ := a
    obtain ⟨⟨b⟩⟩ := b
    simp only at h
    rw [h]
  · rfl
  · rfl
  · rfl
  · rfl
  · cases h
def Own.eqB : Own → Own → Bool
  | .no, .no => true
  | .full, .full => true
  | .tok a, .tok b => a == b
  | _, _ => false
theorem Own.eqB_eq {x y : Own} (h : x.eqB y = true) : x = y := by
  cases x <;> cases y <;> simp_all [Own.eqB]
mutual
def peq : PV → PV → Bool
  | .v x, .v y => veq x y
  | .sl o xs, .sl o' ys => o.eqB o' && peqs xs ys
  | .ag xs, .ag ys => peqs xs ys
  | .tp xs, .tp ys => peqs xs ys
  | .bp i o, .bp i' o' => i == i' && o == o'
  | .mp i, .mp i' => i == i'
  | .it i, .it i' => i == i'
  | .bs i o l, .bs i' o' l' => i == i' && o == o' && l == l'
  | .ep xs, .ep ys => peqs xs ys
  | .fn (.func g) a b, .fn (.func g') a' b' => g == g' && peqs a a' && peqs b b'
  | .ifc t x, .ifc t' y => t == t' && peq x y
  | _, _ => false
def peqs : List PV → List PV → Bool
  | [], [] => true
  | x :: l, y :: r => peq x y && peqs l r
  | _, _ => false
end
mutual
theorem peq_eq : ∀ (x y : PV), peq x y = true → x = y
  | .v x, y, h => by
    cases y <;> simp only [peq, Bool.false_eq_true] at h
    rw [veq_eq h]
  | .sl o xs, y, h => by
    cases y <;> simp only [peq, Bool.false_eq_true, Bool.and_eq_true] at h
    rw [Own.eqB_eq h.1, peqs_eq _ _ h.2]
  | .ag xs, y, h => by
    cases y <;> simp only [peq, Bool.false_eq_true] at h
    rw [peqs_eq _ _ h]
  | .tp xs, y, h => by
    cases y <;> simp only [peq, Bool.false_eq_true] at h
    rw [peqs_eq _ _ h]
  | .bp i o, y, h => by
    cases y <;> simp only [peq, Bool.false_eq_true, Bool.and_eq_true, beq_iff_eq] at h
    rw [h.1, h.2]
  | .bs i o l, y, h => by
    cases y <;> simp only [peq, Bool.false_eq_true, Bool.and_eq_true, beq_iff_eq] at h
    rw [h.1.1, h.1.2, h.2]
  | .mp i, y, h => by
    cases y <;> simp only [peq, Bool.false_eq_true, beq_iff_eq] at h
    rw [h]
  | .it i, y, h => by
    cases y <;> simp only [peq, Bool.false_eq_true, beq_iff_eq] at h
    rw [h]
  | .ep xs, y, h => by
    cases y <;> simp only [peq, Bool.false_eq_true] at h
    rw [peqs_eq _ _ h]
  | .fn g a b, y, h => by
    cases y <;> first
      | (cases g <;> simp only [peq, Bool.false_eq_true] at h; done)
      | skip
    rename_i g' a' b'
    cases g <;> cases g' <;> simp only [peq, Bool.false_eq_true, Bool.and_eq_true, beq_iff_eq] at h
    rw [h.1.1, peqs_eq _ _ h.1.2, peqs_eq _ _ h.2]
  | .ifc t x, y, h => by
    cases y <;> simp only [peq, Bool.false_eq_true, Bool.and_eq_true, beq_iff_eq] at h
    rw [h.1, peq_eq _ _ h.2]
  | .junk, y, h => by
    cases y <;> simp only [peq, Bool.false_eq_true] at h
theorem peqs_eq : ∀ (x y : List PV), peqs x y = true → x = y
  | [], [], _ => rfl
  | x :: l, y :: r, h => by
    simp only [peqs, Bool.and_eq_true] at h
    rw [peq_eq _ _ h.1, peqs_eq _ _ h.2]
  | [], _ :: _, h => by simp [peqs] at h
  | _ :: _, [], h => by simp [peqs] at h
end
def beq_ (a b : Option (List PV)) : Bool := match a, b with
  | none, none => true
  | some x, some y => peqs x y
  | _, _ => false
theorem beq_eq {a b : Option (List PV)} (h : beq_ a b = true) : a = b := by
  unfold beq_ at h
  split at h
  · rfl
  · rw [peqs_eq _ _ h]
  · cases h

/-! ### Regions that draw -/
def readBox (op : Op) (f : F) : Option Nat := match op with
  | .load _ a => (match ev f a with | .bp id _ => some id | _ => none)
  | .lookup _ x _ _ => (match ev f x with | .mp id => some id | _ => none)
  | .call c => (match c.args.toList.map (ev f) with | [.mp id] => some id | _ => none)
  | _ => none
section
variable {P : Program} {call : CallR} {mu : List Nat} {Z : PV → M → Prop} {ops : Array Oper}
set_option maxHeartbeats 2000000 in
theorem quiet_same {o : Oper} {f : F} {m m1 m2 : M} {p : Prop} {v : PV} (hq : isEff mu o = false) (h : aStep P (muOf mu o) o.op f m = .ok p v m1) (hg : ∀ id, readBox o.op f = some id → m2.get id = m.get id) : aStep P (muOf mu o) o.op f m2 = .ok p v m2 := by
  obtain ⟨dst, op, ty, pos, after, guard⟩ := o
  simp only at h hg ⊢
  unfold isEff at hq
  cases op <;> simp only [aStep, reduceCtorEq] at h ⊢ <;> (try simp only at hq)
  case call c =>
    obtain ⟨callee, args, ats⟩ := c
    cases callee with
    | builtin b =>
      simp only at h hq ⊢
      simp only [readBox] at hg
      generalize args.toList.map (ev f) = as at h hg ⊢
      unfold aBuiltin at h ⊢
      cases b <;> (try (simp only [reduceCtorEq] at hq; done))
      all_goals (split at h <;> simp_all)
      all_goals (split at h <;> simp_all)
    | value g => exact absurd hq (by simp)
    | invoke g n => exact absurd hq (by simp)
  case lookup t x i ok =>
    split at h
    · rename_i e id k ht hev hei
      have := hg id (by simp [readBox, hev])
      try simp only [ht, hev, hei]
      rw [this]
      split at h
      · rename_i d ks vs hd hc
        cases h
        try simp only [hd, hc]
      · cases h
    · cases h
  case load t a =>
    cases hd : tdat P t with
    | none => simp [hd] at h
    | some d =>
      cases he : ev f a <;> simp only [hd, he, reduceCtorEq] at h ⊢
      case ep xs => cases h; rfl
      case bp id o =>
        have := hg id (by simp [readBox, he])
        rw [this]
        split at h
        · rename_i c hc
          cases h
          rfl
        · cases h
  all_goals first
    | (simp only [reduceCtorEq] at hq; done)
    | (cases h; rfl; done)
    | (rw [hq] at h ⊢; simp only [Bool.false_eq_true, if_false] at h ⊢; cases h; rfl; done)
    | (rw [hq] at h ⊢; simp only [Bool.false_eq_true, if_false] at h ⊢; (repeat' split at h) <;> cases h <;> simp_all; done)
    | ((repeat' split at h) <;> (try (unfold aNil at h ⊢)) <;> (repeat' split at h) <;> cases h <;> simp_all; done)

/-- The boxes that quiet loads of a region read. -/
def eCol (P : Program) (call : CallR) (mu : List Nat) (ops : Array Oper) : List Oper → EN → M → List Nat
  | [], _, _ => []
  | o :: rest, env, m =>
    let go : Unit → List Nat := fun _ => if isEff mu o then (match eOp P call mu o (fl env) m with
        | some (.val v m' _) => (match eput env o.dst v with | some e => eCol P call mu ops rest e m' | none => [])
        | _ => [])
      else (match aStep P (muOf mu o) o.op (fl env) m with
        | .ok _ v _ => (match eput env o.dst v with | some e => (match readBox o.op (fl env) with | some id => id :: eCol P call mu ops rest e m | none => eCol P call mu ops rest e m) | none => [])
        | _ => [])
    match o.guard with
    | none => go ()
    | some (j, want) => match guardA ops (fl env) j want with
      | some true => go ()
      | some false => (match eput env o.dst (.tp []) with | some e => eCol P call mu ops rest e m | none => [])
      | none => []
def rdOk (R : List Nat) (op : Op) (f : F) : Bool := match readBox op f with
  | some id => R.contains id
  | none => true
/-- A box that a step from m to m' leaves as m0 has it. -/
def frB (m m' m0 : M) (ws : Option (List Nat)) (id : Nat) : Bool := match ws with
  | some l => (decide (id < m.nb) && !l.contains id) || beq_ (m'.get id) (m0.get id)
  | none => beq_ (m'.get id) (m0.get id)
theorem frB_spec {m m' m0 : M} {ws : Option (List Nat)} {id : Nat} (h : frB m m' m0 ws id = true) (hf : frO m m' ws) (he : m.get id = m0.get id) : m'.get id = m0.get id := by
  cases ws with
  | none => exact beq_eq h
  | some l =>
    simp only [frB, Bool.or_eq_true, Bool.and_eq_true, decide_eq_true_eq, Bool.not_eq_true', List.contains_eq_mem, decide_eq_false_iff_not] at h
    rcases h with ⟨h1, h2⟩ | h
    · exact (hf.2 id h1 h2).trans he
    · exact beq_eq h
def eLexD (P : Program) (call : CallR) (mu : List Nat) (ops : Array Oper) (R : List Nat) (m0 : M) (k : Nat) (o : Oper) (env : EN) (s : MW) : Option RR :=
  if isEff mu o then (match eOp P call mu o (fl env) s.m with
    | some (.val v m' ws) => if R.all (fun id => frB s.m m' m0 ws id) then (eput env o.dst v).map fun e => .nxt e ⟨m', wadd s.w ws⟩ else none
    | some (.pan v m') => if behind ops k then some (.pan v m') else none
    | none => none)
  else (match aStep P (muOf mu o) o.op (fl env) s.m with
    | .ok _ v _ => if ePre P (muOf mu o) o.op (fl env) s.m && rdOk R o.op (fl env) then (eput env o.dst v).map fun e => .nxt e s else none
    | _ => none)
def eLex (P : Program) (call : CallR) (mu : List Nat) (ops : Array Oper) (R : List Nat) (m0 : M) : Nat → List Oper → EN → MW → Option RR
  | _, [], env, m => some (.nxt env m)
  | k, o :: rest, env, m => match o.guard with
    | none => (match eLexD P call mu ops R m0 k o env m with | some (.nxt e m') => eLex P call mu ops R m0 (k + 1) rest e m' | r => r)
    | some (j, want) => match guardA ops (fl env) j want with
      | some true => (match eLexD P call mu ops R m0 k o env m with | some (.nxt e m') => eLex P call mu ops R m0 (k + 1) rest e m' | r => r)
      | some false => (match eput env o.dst (.tp []) with | some e => eLex P call mu ops R m0 (k + 1) rest e m | none => none)
      | none => none
def SR (R : List Nat) (m0 m : M) : Prop := ∀ id ∈ R, m.get id = m0.get id
theorem eLexD_fr (hc : CallOk P call) {R : List Nat} {m0 mb : M} {k : Nat} {o : Oper} {env : EN} {s : MW} {r : RR} (h : eLexD P call mu ops R m0 k o env s = some r) (hs : frO mb s.m s.w) : r.fr mb := by
  unfold eLexD at h
  split at h
  · split at h
    · rename_i v m1 ws hop
      split at h
      · simp only [Option.map_eq_some_iff] at h
        obtain ⟨e, _, rfl⟩ := h
        exact frO_add hs (eOp_fr hc hop)
      · cases h
    · split at h
      · cases h; trivial
      · cases h
    · cases h
  · split at h
    · split at h
      · simp only [Option.map_eq_some_iff] at h
        obtain ⟨e, _, rfl⟩ := h
        exact hs
      · cases h
    · cases h
theorem eLexD_sound (hc : CallOk P call) {R : List Nat} {m0 : M} {k : Nat} {o : Oper} {env : EN} {m : MW} {r : RR} {X : F → M → Prop} (h : eLexD P call mu ops R m0 k o env m = some r) (hS : SR R m0 m.m)
    (hx : ∀ e m', r = .nxt e m' → SR R m0 m'.m → X (fl e) m'.m) (hz : ∀ v m', r = .pan v m' → Z v m') :
    if isEff mu o then aOp P mu (zOf Z ops k) o (fl env) m.m (fun v m' => SR R m0 m' ∧ X (F.put (fl env) o.dst v) m') else ∃ v, aQuiet P mu o (fl env) (SR R m0) v ∧ X (F.put (fl env) o.dst v) m.m := by
  unfold eLexD at h
  split at h
  · rename_i he
    rw [if_pos he]
    split at h
    · rename_i v m1 ws hop
      split at h
      · rename_i hR
        cases hp : eput env o.dst v with
        | none => simp [hp] at h
        | some e' =>
          simp only [hp, Option.map_some, Option.some.injEq] at h
          subst h
          have hS' : SR R m0 m1 := fun id hid => frB_spec (List.all_eq_true.1 hR id hid) (eOp_fr hc hop) (hS id hid)
          refine eOp_sound (Z := zOf Z ops k) hc hop ?_
          show SR R m0 m1 ∧ X (F.put (fl env) o.dst v) m1
          rw [eput_fl hp]
          exact ⟨hS', hx _ _ rfl hS'⟩
      · cases h
    · rename_i v m1 hop
      split at h
      · rename_i hb
        cases h
        refine eOp_sound (Z := zOf Z ops k) hc hop ?_
        show zOf Z ops k v m1
        unfold zOf
        rw [if_pos hb]
        exact hz _ _ rfl
      · cases h
    · cases h
  · rename_i he
    rw [if_neg he]
    have heq : isEff mu o = false := by simpa using he
    cases hs : aStep P (muOf mu o) o.op (fl env) m.m with
    | ok p v m1 =>
      simp only [hs] at h
      split at h
      · rename_i hR
        simp only [Bool.and_eq_true] at hR
        cases hp : eput env o.dst v with
        | none => simp [hp] at h
        | some e' =>
          simp only [hp, Option.map_some, Option.some.injEq] at h
          subst h
          refine ⟨v, fun m2 h2 => ⟨p, quiet_same heq hs fun id hid => ?_, ePre_sound hs hR.1⟩, ?_⟩
          · have := hR.2
            unfold rdOk at this
            rw [hid] at this
            have hmem : id ∈ R := by simpa using this
            rw [h2 id hmem, hS id hmem]
          · rw [eput_fl hp]; exact hx _ _ rfl hS
      · cases h
    | _ => simp [hs] at h
theorem eLex_fr (hc : CallOk P call) {R : List Nat} {m0 mb : M} : ∀ (l : List Oper) {k : Nat} {env : EN} {s : MW} {r : RR}, eLex P call mu ops R m0 k l env s = some r → frO mb s.m s.w → r.fr mb
  | [], k, env, s, r, h, hs => by
    simp only [eLex, Option.some.injEq] at h
    subst h
    exact hs
  | o :: rest, k, env, s, r, h, hs => by
    rw [eLex.eq_def] at h
    simp only at h
    have body : (match eLexD P call mu ops R m0 k o env s with | some (.nxt e m') => eLex P call mu ops R m0 (k + 1) rest e m' | r => r) = some r → r.fr mb := fun h => by
      split at h
      · rename_i e1 m1 hd
        exact eLex_fr hc rest h (eLexD_fr hc hd hs)
      · exact eLexD_fr hc h hs
    split at h
    · exact body h
    · split at h
      · exact body h
      · split at h
        · exact eLex_fr hc rest h hs
        · cases h
      · cases h
theorem eLex_sound (hc : CallOk P call) {R : List Nat} {m0 : M} {K : F → M → Prop} : ∀ (l : List Oper) {k : Nat} {env : EN} {m : MW} {r : RR}, (∀ j, l[j]? = ops[k + j]?) → eLex P call mu ops R m0 k l env m = some r → SR R m0 m.m → r.to K Z → aLexZ P mu Z ops (SR R m0) K (List.range' k l.length) (fl env) m.m
  | [], k, env, m, r, _, h, hS, hk => by
    simp only [eLex, Option.some.injEq] at h
    subst h
    exact hk
  | o :: rest, k, env, m, r, hl, h, hS, hk => by
    have h0 : ops[k]? = some o := by simpa using (hl 0).symm
    have hl' : ∀ j, rest[j]? = ops[k + 1 + j]? := fun j => by have := hl (j + 1); simpa [Nat.add_assoc, Nat.add_comm 1 j] using this
    rw [eLex.eq_def] at h
    simp only at h
    simp only [List.length_cons, List.range'_succ, aLexZ, h0, aG]
    have body : (match eLexD P call mu ops R m0 k o env m with | some (.nxt e m') => eLex P call mu ops R m0 (k + 1) rest e m' | r => r) = some r →
        (if isEff mu o then aOp P mu (zOf Z ops k) o (fl env) m.m (fun v m' => SR R m0 m' ∧ aLexZ P mu Z ops (SR R m0) K (List.range' (k + 1) rest.length) (F.put (fl env) o.dst v) m') else ∃ v, aQuiet P mu o (fl env) (SR R m0) v ∧ aLexZ P mu Z ops (SR R m0) K (List.range' (k + 1) rest.length) (F.put (fl env) o.dst v) m.m) := fun h => by
      split at h
      · rename_i e1 m1 hd
        exact eLexD_sound (X := fun f m => aLexZ P mu Z ops (SR R m0) K (List.range' (k + 1) rest.length) f m) hc hd hS (fun e m' he hS' => by cases he; exact eLex_sound hc rest hl' h hS' hk) (fun v m' he => by cases he)
      · rename_i hne
        refine eLexD_sound (X := fun f m => aLexZ P mu Z ops (SR R m0) K (List.range' (k + 1) rest.length) f m) hc h hS (fun e m' he hS' => ?_) (fun v m' he => ?_)
        · subst he; exact absurd h (hne e m')
        · subst he; exact hk
    cases hg : o.guard with
    | none =>
      simp only [hg] at h ⊢
      exact body h
    | some q =>
      obtain ⟨j, want⟩ := q
      simp only [hg] at h ⊢
      cases hgu : guardA ops (fl env) j want with
      | none => simp [hgu] at h
      | some b =>
        simp only [hgu] at h
        cases b with
        | true =>
          simp only at h
          exact ⟨fun _ => body h, (fun h => by cases h)⟩
        | false =>
          simp only at h
          refine ⟨(fun h => by cases h), fun _ => ?_⟩
          split at h
          · rename_i e1 hp
            rw [eput_fl hp]
            exact eLex_sound hc rest hl' h hS hk
          · cases h
end
end Go.Proofs.Ytfemdelaciccmaa
