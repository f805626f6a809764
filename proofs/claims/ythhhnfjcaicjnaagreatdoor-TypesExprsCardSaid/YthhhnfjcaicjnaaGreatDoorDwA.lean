/-
 Texts that belong together: AbDraw, AbDraw2.
-/
-- halved
import Derived.Test.YthhhnfjcaicjnaaGreatDoorAbCode
set_option linter.unusedVariables false
set_option linter.unusedSimpArgs false
namespace Go.Proofs.YthhhnfjcaicjnaaGreatDoor
open Go Go.RowKit

def isEff (mu : List Nat) (o : Oper) : Bool :=
 match o.op with
 | .call { callee := .builtin b, .. } => (match b with | .len | .max | .min => false | _ => true)
 | .call _ | .makeSlice _ _ _ | .store _ _ _ | .mapUpdate _ _ _ _ | .makeMap _ _ | .range _ _ | .next _ _ | .entry _ | .mapEntry _ _ _ | .entryStore _ _ _ _ => true
 | .alloc _ | .box _ _ | .buildSlice _ _ _ | .load _ _ => muOf mu o
 | _ => false
def aQuiet (P : Program) (mu : List Nat) (o : Oper) (f : F) (S : M → Prop) (v : PV) : Prop := ∀ m, S m → ∃ p : Prop, aStep P (muOf mu o) o.op f m = .ok p v m ∧ p
def aG (ops : Array Oper) (o : Oper) (f : F) (x y : Prop) : Prop := match o.guard with
 | none => x
 | some (j, want) => aGuard (guardA ops f j want) x y
def aLex (P : Program) (mu : List Nat) (ops : Array Oper) (S : M → Prop) (K : F → M → Prop) : List Nat → F → M → Prop
 | [], f, m => K f m
 | i :: rest, f, m => match ops[i]? with
  | none => False
  | some o => aG ops o f
      (if isEff mu o then aOp P mu noZ o f m fun v m' => S m' ∧ aLex P mu ops S K rest (F.put f o.dst v) m' else ∃ v, aQuiet P mu o f S v ∧ aLex P mu ops S K rest (F.put f o.dst v) m)
      (aLex P mu ops S K rest (F.put f o.dst (.tp [])) m)

def edgesOf (o : Oper) : List Nat := (o.after.toList.filter (Region.binds .any)).map (·.on)
def upOf (ops : Array Oper) : List Nat → List Nat → List Nat
 | [], S => S
 | j :: js, S => if S.contains j then upOf ops js (((ops[j]?).elim [] edgesOf) ++ S) else upOf ops js S
theorem upOf_closed {ops : Array Oper} {Q : Nat → Prop} (hQ : ∀ j o, ops[j]? = some o → Q j → ∀ k ∈ edgesOf o, Q k) : ∀ (js S : List Nat), (∀ k ∈ S, Q k) → ∀ k ∈ upOf ops js S, Q k
 | [], S, h => h
 | j :: js, S, h => by
  unfold upOf
  split
  ·rename_i hj
   refine upOf_closed hQ js _ fun k hk => ?_
   rcases List.mem_append.1 hk with hk | hk
   ·cases ho : ops[j]? with
    | none => rw [ho] at hk; simp at hk
    | some o => rw [ho] at hk; exact hQ j o ho (h j (by simpa using hj)) k hk
   ·exact h k hk
  ·exact upOf_closed hQ js S h

def lexOk (mu : List Nat) (ops : Array Oper) : Bool :=
 Region.noSelect ops &&
 (List.range ops.size).all fun i => match ops[i]? with
  | none => true
  | some oi => oi.after.all (fun e => !Region.binds .any e || e.on < i) &&
    (List.range i).all fun k => match ops[k]? with
     | none => true
     | some ok => oi.after.any (fun e => Region.binds .any e && e.on == k) || ((ok.apart ops oi) && !(isEff mu ok && isEff mu oi)) || (upOf ops (List.range i).reverse (edgesOf oi)).contains k

section
variable {P : Program} {mu : List Nat} {n : Fi} {ds : List Deferred} {ops : Array Oper} {S : M → Prop} {K : F → M → Prop}

theorem F.put_comm (f : F) {x y : Option Tmp} (v u : PV) (h : ∀ d, x = some d → y ≠ some d) : F.put (F.put f x v) y u = F.put (F.put f y u) x v := by
 cases x with
 | none => rfl
 | some d =>
  cases y with
  | none => rfl
  | some e =>
   have hne : d ≠ e := fun he => h d rfl (by rw [he])
   funext t
   simp only [F.put]
   by_cases h1 : t = d
   ·subst h1; simp [hne]
   ·simp [h1]

theorem ev_put (f : F) {d : Option Tmp} {v : PV} {x : Operand} (h : ∀ t, d = some t → x ≠ .tmp t) : ev (F.put f d v) x = ev f x := by
 cases d with
 | none => rfl
 | some d =>
  cases x with
  | tmp t =>
   have : t ≠ d := fun e => h d rfl (by rw [e])
   simp [ev, F.put, this]
  | _ => rfl

theorem aStep_congr0 {f f' : F} {mu : Bool} {op : Op} {m : M} (hs : ∀ cs b, op ≠ .select cs b) (h : ∀ x ∈ op.operands, ev f x = ev f' x) : aStep0 P mu op f m = aStep0 P mu op f' m := by
 have pairs : ∀ ps : Array (Nat × Operand), (∀ x ∈ ps.map (·.2), ev f x = ev f' x) → (ps.toList.map fun p => (p.1, ev f p.2)) = (ps.toList.map fun p => (p.1, ev f' p.2)) := fun ps hp =>
  List.map_congr_left fun p hm => by rw [hp p.2 (Array.mem_map.2 ⟨p, by simpa using hm, rfl⟩)]
 have pairs2 : ∀ ps : Array (Nat × Operand), (∀ x ∈ ps.map (·.2), ev f x = ev f' x) → (ps.toList.map fun p => (ev f p.2)) = (ps.toList.map fun p => (ev f' p.2)) := fun ps hp =>
  List.map_congr_left fun p hm => by rw [hp p.2 (Array.mem_map.2 ⟨p, by simpa using hm, rfl⟩)]
 have lists : ∀ ps : Array Operand, (∀ x ∈ ps, ev f x = ev f' x) → ps.toList.map (ev f) = ps.toList.map (ev f') := fun ps hp =>
  List.map_congr_left fun p hm => hp p (by simpa using hm)
 cases op <;> simp only [Op.operands] at h <;> simp only [aStep0]
 case build t ps => rw [pairs ps fun x hx => h x (by simpa using hx)]
 case buildSlice t n ps => rw [pairs2 ps fun x hx => h x (by simpa using hx)]
 case makeFunc fn a b => rw [lists a fun x hx => h x (by simp [hx]), lists b fun x hx => h x (by simp [hx])]
 case call c =>
  obtain ⟨callee, args, ats⟩ := c
  simp only [Call.operands] at h
  cases callee with
  | builtin b => simp only; rw [lists args fun x hx => h x (by simp [hx])]
  | value g => simp only; rw [lists args fun x hx => h x (by simp [hx]), h g (by simp)]
  | invoke r n => simp only; rw [lists args fun x hx => h x (by simp [hx]), h r (by simp)]
 case slice t x lo hi mx =>
  have hl : loOf f lo = loOf f' lo := by
   cases lo with
   | none => rfl
   | some l => simp only [loOf]; rw [h l (by simp)]
  have hh : ∀ n, hiOf f n hi = hiOf f' n hi := fun n => by
   cases hi with
   | none => rfl
   | some l => simp only [hiOf]; rw [h l (by simp)]
  rw [h x (by simp), hl]
  simp only [hh]
 all_goals (first | rfl | (simp_all; done))

theorem aGrow_congr {f f' : F} {mu : Bool} {op : Op} {m : M} (h : ∀ x ∈ op.operands, ev f x = ev f' x) : aGrow P mu op f m = aGrow P mu op f' m := by
 cases op <;> simp only [Op.operands] at h <;> simp only [aGrow]
 case makeSlice t l c => rw [h l (by simp), h c (by simp)]
 case indexAddr t x i => rw [h x (by simp), h i (by simp)]
 case binOp op t x y yt => rw [h x (by simp)]
 case slice t x lo hi mx =>
  rw [h x (by simp)]
  cases hi with
  | none => rfl
  | some q => simp only [Option.map_some]; rw [h q (by simp)]
 case call c =>
  obtain ⟨callee, args, ats⟩ := c
  simp only [Call.operands] at h
  cases callee with
  | builtin b => simp only; rw [show args.toList.map (ev f) = args.toList.map (ev f') from List.map_congr_left fun p hm => h p (by simp; simpa using hm)]
  | value g => rfl
  | invoke r n => rfl
theorem aStep_congr {f f' : F} {mu : Bool} {op : Op} {m : M} (hs : ∀ cs b, op ≠ .select cs b) (h : ∀ x ∈ op.operands, ev f x = ev f' x) : aStep P mu op f m = aStep P mu op f' m := by
 unfold aStep
 rw [aGrow_congr h, aStep_congr0 hs h]

theorem apart_step {o o' : Oper} (hsel : ∀ cs b, o'.op ≠ .select cs b) (h : o.apart ops o' = true) (f : F) (v : PV) (mu : Bool) (m : M) : aStep P mu o'.op (F.put f o.dst v) m = aStep P mu o'.op f m := by
 obtain ⟨h1, _, _⟩ := Oper.apart_spec h
 refine aStep_congr hsel fun x hx => ev_put f fun t ht e => ?_
 subst e
 exact h1 t ht (List.mem_append_left _ (List.mem_filterMap.2 ⟨.tmp t, by simpa using hx, rfl⟩))
theorem apart_guard {o o' : Oper} (h : o.apart ops o' = true) (f : F) (v : PV) {j : Nat} {want : Bool} (hg : o'.guard = some (j, want)) : guardA ops (F.put f o.dst v) j want = guardA ops f j want := by
 obtain ⟨h1, _, _⟩ := Oper.apart_spec h
 unfold guardA
 cases hd : (ops[j]?).bind (·.dst) with
 | none => rfl
 | some d =>
  have : F.put f o.dst v d = f d := by
   cases ho : o.dst with
   | none => rfl
   | some e =>
    have hne : d ≠ e := fun he => h1 e ho (by subst he; simp [Oper.looksAt, hg, hd])
    simp [F.put, hne]
  simp only [this]
theorem apart_symm {o o' : Oper} (h : o.apart ops o' = true) : o'.apart ops o = true := by
 obtain ⟨h1, h2, h3⟩ := Oper.apart_spec h
 unfold Oper.apart
 rw [Bool.and_eq_true]
 refine ⟨?_, ?_⟩
 ·cases ho : o'.dst with
  | none => rfl
  | some d =>
   simp only [Bool.and_eq_true, Bool.not_eq_true', List.contains_eq_mem, decide_eq_false_iff_not, bne_iff_ne, ne_eq]
   exact ⟨h3 d ho, fun he => h2 d he ho⟩
 ·cases ho : o.dst with
  | none => rfl
  | some d =>
   simp only [Bool.not_eq_true', List.contains_eq_mem, decide_eq_false_iff_not]
   exact h1 d ho
theorem apart_quiet {o o' : Oper} (hsel : ∀ cs b, o'.op ≠ .select cs b) (h : o.apart ops o' = true) (f : F) (u : PV) {v : PV} : aQuiet P mu o' (F.put f o.dst u) S v ↔ aQuiet P mu o' f S v := by
 unfold aQuiet
 simp only [apart_step hsel h]
theorem apart_op {o o' : Oper} (hsel : ∀ cs b, o'.op ≠ .select cs b) (h : o.apart ops o' = true) (f : F) (u : PV) (m : M) (K : PV → M → Prop) : aOp P mu noZ o' (F.put f o.dst u) m K ↔ aOp P mu noZ o' f m K := by
 unfold aOp
 rw [apart_step hsel h]
theorem aOp_mono {Z : PV → M → Prop} {o : Oper} {f : F} {m : M} {K K' : PV → M → Prop} (h : aOp P mu Z o f m K) (hk : ∀ v m', K v m' → K' v m') : aOp P mu Z o f m K' := by
 unfold aOp at *
 cases hs : aStep P (muOf mu o) o.op f m with
 | ok p v m' => simp only [hs] at h ⊢; exact ⟨h.1, hk _ _ h.2⟩
 | call g args => simp only [hs] at h ⊢; exact ACallsZ.mono h hk (fun _ _ h => h)
 | pan v => simp only [hs] at h ⊢; exact h
 | alt p S => simp only [hs] at h ⊢; exact ⟨h.1, fun v m' q => hk _ _ (h.2 v m' q)⟩
 | bad => simp [hs] at h
theorem aG_cases {o : Oper} {f : F} {x y : Prop} (h : aG ops o f x y) : (o.guard = none ∧ x) ∨ ∃ j want b, o.guard = some (j, want) ∧ guardA ops f j want = some b ∧ (if b = true then x else y) := by
 unfold aG at h
 cases hg : o.guard with
 | none => simp only [hg] at h; exact .inl ⟨rfl, h⟩
 | some jw =>
  obtain ⟨j, want⟩ := jw
  simp only [hg] at h
  cases hgu : guardA ops f j want with
  | none => simp [hgu, aGuard] at h
  | some b =>
   simp only [hgu, aGuard] at h
   refine .inr ⟨j, want, b, rfl, hgu, ?_⟩
   cases b
   ·exact h.2 rfl
   ·exact h.1 rfl
theorem aG_mk {o : Oper} {f : F} {x y : Prop} (h : (o.guard = none ∧ x) ∨ ∃ j want b, o.guard = some (j, want) ∧ guardA ops f j want = some b ∧ (if b = true then x else y)) : aG ops o f x y := by
 unfold aG
 rcases h with ⟨hg, hx⟩ | ⟨j, want, b, hg, hgu, hx⟩
 ·simp only [hg]; exact hx
 ·simp only [hg, hgu, aGuard]
  cases b
  ·exact ⟨(fun h => by cases h), (fun _ => by simpa using hx)⟩
  ·exact ⟨(fun _ => by simpa using hx), (fun h => by cases h)⟩

def OkPair (mu : List Nat) (ops : Array Oper) (k i : Nat) : Prop :=
 ∀ ok oi, ops[k]? = some ok → ops[i]? = some oi → ok.apart ops oi = true ∧ (isEff mu ok = true → isEff mu oi = false)

theorem aQuiet_unique {o : Oper} {f : F} {v u : PV} {m : M} (hm : S m) (h : aQuiet P mu o f S v) (k : aQuiet P mu o f S u) : v = u := by
 obtain ⟨p, h1, _⟩ := h m hm
 obtain ⟨q, h2, _⟩ := k m hm
 rw [h1] at h2
 cases h2
 rfl
theorem aQuiet_op {o : Oper} {f : F} {v : PV} {m : M} (hm : S m) (h : aQuiet P mu o f S v) {K' : PV → M → Prop} (hk : K' v m) : aOp P mu noZ o f m K' := by
 obtain ⟨p, h1, h2⟩ := h m hm
 unfold aOp
 simp only [h1]
 exact ⟨h2, hk⟩

theorem aOp_some {o : Oper} {f : F} {m : M} {K' : PV → M → Prop} (h : aOp P mu noZ o f m K') {G : Ghost} {a : Act} {w : World} (hS : St n ds G f m a w) (hb : dstB n o = true) :
    ∃ v m' G' a' w', K' v m' ∧ St n ds G' (F.put f o.dst v) m' a' w' := by
 unfold aOp at h
 cases hs : aStep P (muOf mu o) o.op f m with
 | ok p v m' =>
  simp only [hs] at h
  obtain ⟨x, y, w', G', h1, h2, h3, h4, h5⟩ := step_sound (o := o) hS.inv hS.fr hs h.1
  exact ⟨v, m', G', _, w', h.2, hS.put hb h3 h4 h5⟩
 | call g args =>
  simp only [hs] at h
  obtain ⟨vs, h1, h2, h3⟩ := call_sound (o := o) (w := w) hS.inv hS.fr hs
  obtain ⟨e, w', fr, ⟨y, v, m', G', e1, e2, e3, e4, e5⟩ | ⟨y, v, m', G', e1, e2, _⟩, _⟩ := h.run G w vs hS.inv h1 h2 []
  ·exact ⟨v, m', G', _, w', e2, hS.put hb e3 e4 e5⟩
  ·exact e2.elim
 | pan v => simp only [hs] at h; exact h.elim
 | alt p S =>
  simp only [hs] at h
  obtain ⟨v, m', hSv, x, y, w', G', h1, h2, h3, h4, h5⟩ := alt_sound (o := o) hS.inv hS.fr hs h.1
  exact ⟨v, m', G', _, w', h.2 _ _ hSv, hS.put hb h3 h4 h5⟩
 | bad => simp [hs] at h

theorem aLex_peek (hsel : ∀ (j : Nat) (o : Oper) cs b, ops[j]? = some o → o.op ≠ .select cs b) (hbd : ∀ (j : Nat) (o : Oper), ops[j]? = some o → dstB n o = true) {i : Nat} {oi : Oper} (hi : ops[i]? = some oi) (hne : isEff mu oi = false) :
    ∀ (l1 l2 : List Nat) {f : F} {m : M} {G : Ghost} {a : Act} {w : World}, (∀ k ∈ l1, OkPair mu ops k i) → aLex P mu ops S K (l1 ++ i :: l2) f m → S m → St n ds G f m a w →
     aG ops oi f (∃ v, aQuiet P mu oi f S v) True
 | [], l2, f, m, G, a, w, _, h, _, _ => by
  simp only [List.nil_append, aLex, hi] at h
  rcases aG_cases h with ⟨hg, hx⟩ | ⟨j, want, b, hg, hgu, hx⟩
  ·rw [if_neg (by simp [hne])] at hx
   obtain ⟨v, hv, _⟩ := hx
   exact aG_mk (.inl ⟨hg, v, hv⟩)
  ·refine aG_mk (.inr ⟨j, want, b, hg, hgu, ?_⟩)
   cases b
   ·simp
   ·simp only [if_true, hne, Bool.false_eq_true, if_false] at hx ⊢
    obtain ⟨v, hv, _⟩ := hx
    exact ⟨v, hv⟩
 | k :: l1, l2, f, m, G, a, w, hp, h, hm, hSt => by
  simp only [List.cons_append, aLex] at h
  cases hk : ops[k]? with
  | none => simp [hk] at h
  | some ok =>
   simp only [hk] at h
   have hap := (hp k (by simp) ok oi hk hi).1
   have back : ∀ (u : PV), aG ops oi (F.put f ok.dst u) (∃ v, aQuiet P mu oi (F.put f ok.dst u) S v) True → aG ops oi f (∃ v, aQuiet P mu oi f S v) True := fun u hh => by
    rcases aG_cases hh with ⟨hg, v, hv⟩ | ⟨j, want, b, hg, hgu, hx⟩
    ·exact aG_mk (.inl ⟨hg, v, (apart_quiet (fun cs b => hsel i oi cs b hi) hap f u).1 hv⟩)
    ·rw [apart_guard hap f u hg] at hgu
     refine aG_mk (.inr ⟨j, want, b, hg, hgu, ?_⟩)
     cases b
     ·simp
     ·simp only [if_true] at hx ⊢
      obtain ⟨v, hv⟩ := hx
      exact ⟨v, (apart_quiet (fun cs b => hsel i oi cs b hi) hap f u).1 hv⟩
   have rest := fun {f : F} {m : M} {G : Ghost} {a : Act} {w : World} => aLex_peek hsel hbd hi hne l1 l2 (f := f) (m := m) (G := G) (a := a) (w := w) (fun k hk => hp k (by simp [hk]))
   have body : (if isEff mu ok then aOp P mu noZ ok f m fun v m' => S m' ∧ aLex P mu ops S K (l1 ++ i :: l2) (F.put f ok.dst v) m' else ∃ v, aQuiet P mu ok f S v ∧ aLex P mu ops S K (l1 ++ i :: l2) (F.put f ok.dst v) m) →
       aG ops oi f (∃ v, aQuiet P mu oi f S v) True := fun hx => by
    by_cases he : isEff mu ok = true
    ·rw [if_pos he] at hx
     obtain ⟨v, m', G', a', w', ⟨hs', hl⟩, hSt'⟩ := aOp_some hx hSt (hbd k ok hk)
     exact back v (rest hl hs' hSt')
    ·rw [if_neg he] at hx
     obtain ⟨v, hv, hl⟩ := hx
     obtain ⟨_, m', G', a', w', ⟨rfl, rfl⟩, hSt'⟩ := aOp_some (aQuiet_op (K' := fun v' m' => v' = v ∧ m' = m) hm hv ⟨rfl, rfl⟩) hSt (hbd k ok hk)
     exact back _ (rest hl hm hSt')
   rcases aG_cases h with ⟨hg, hx⟩ | ⟨j, want, b, hg, hgu, hx⟩
   ·exact body hx
   ·cases b
    ·have hSt' := hSt.put (o := ok) (hbd k ok hk) (.tp [] [] rfl (fun j h => by simp at h)) hSt.inv (Ext.refl _ _)
     exact back _ (rest (by simpa using hx) hm hSt')
    ·exact body (by simpa using hx)

theorem aLex_erase (hsel : ∀ (j : Nat) (o : Oper) cs b, ops[j]? = some o → o.op ≠ .select cs b) {i : Nat} {oi : Oper} (hi : ops[i]? = some oi) (hne : isEff mu oi = false) {u : PV} :
    ∀ (l1 l2 : List Nat) {f : F} {m : M}, (∀ k ∈ l1, OkPair mu ops k i) → aLex P mu ops S K (l1 ++ i :: l2) f m → S m →
     ((oi.guard = none ∧ aQuiet P mu oi f S u) ∨ ∃ j want b, oi.guard = some (j, want) ∧ guardA ops f j want = some b ∧ (if b = true then aQuiet P mu oi f S u else u = .tp [])) → aLex P mu ops S K (l1 ++ l2) (F.put f oi.dst u) m
 | [], l2, f, m, _, h, hm, hu => by
  simp only [List.nil_append, aLex, hi] at h
  rw [List.nil_append]
  rcases aG_cases h with ⟨hg, hx⟩ | ⟨j, want, b, hg, hgu, hx⟩
  ·rcases hu with ⟨_, hu⟩ | ⟨j', want', b', hg', _⟩
   ·rw [if_neg (by simp [hne])] at hx
    obtain ⟨v, hv, hl⟩ := hx
    rwa [aQuiet_unique hm hu hv]
   ·rw [hg] at hg'; cases hg'
  ·rcases hu with ⟨hg', _⟩ | ⟨j', want', b', hg', hgu', hu⟩
   ·rw [hg] at hg'; cases hg'
   ·rw [hg] at hg'; cases hg'
    rw [hgu] at hgu'; cases hgu'
    cases b
    ·simp only [Bool.false_eq_true, if_false] at hx hu
     rw [hu]; exact hx
    ·simp only [if_true, hne, Bool.false_eq_true, if_false] at hx hu
     obtain ⟨v, hv, hl⟩ := hx
     rwa [aQuiet_unique hm hu hv]
 | k :: l1, l2, f, m, hp, h, hm, hu => by
  simp only [List.cons_append, aLex] at h ⊢
  cases hk : ops[k]? with
  | none => simp [hk] at h
  | some ok =>
   simp only [hk] at h ⊢
   have hap := (hp k (by simp) ok oi hk hi).1
   have hap' := apart_symm hap
   obtain ⟨_, hdd, _⟩ := Oper.apart_spec hap
   have hsk := fun cs b => hsel k ok cs b hk
   have hsi := fun cs b => hsel i oi cs b hi
   have carry : ∀ (z : PV), ((oi.guard = none ∧ aQuiet P mu oi (F.put f ok.dst z) S u) ∨ ∃ j want b, oi.guard = some (j, want) ∧ guardA ops (F.put f ok.dst z) j want = some b ∧ (if b = true then aQuiet P mu oi (F.put f ok.dst z) S u else u = .tp [])) := fun z => by
    rcases hu with ⟨hg, hu⟩ | ⟨j, want, b, hg, hgu, hu⟩
    ·exact .inl ⟨hg, (apart_quiet hsi hap f z).2 hu⟩
    ·refine .inr ⟨j, want, b, hg, (apart_guard hap f z hg).trans hgu, ?_⟩
     cases b
     ·simpa using hu
     ·simp only [if_true] at hu ⊢
      exact (apart_quiet hsi hap f z).2 hu
   have rest := fun {z : PV} {m : M} (hl : aLex P mu ops S K (l1 ++ i :: l2) (F.put f ok.dst z) m) (hm : S m) => aLex_erase hsel hi hne l1 l2 (fun k hk => hp k (by simp [hk])) hl hm (carry z)
   have comm : ∀ z, F.put (F.put f ok.dst z) oi.dst u = F.put (F.put f oi.dst u) ok.dst z := fun z => F.put_comm f z u (fun d hd => by have := hdd d hd; exact this)
   have body : (if isEff mu ok then aOp P mu noZ ok f m fun v m' => S m' ∧ aLex P mu ops S K (l1 ++ i :: l2) (F.put f ok.dst v) m' else ∃ v, aQuiet P mu ok f S v ∧ aLex P mu ops S K (l1 ++ i :: l2) (F.put f ok.dst v) m) →
       (if isEff mu ok then aOp P mu noZ ok (F.put f oi.dst u) m fun v m' => S m' ∧ aLex P mu ops S K (l1 ++ l2) (F.put (F.put f oi.dst u) ok.dst v) m' else ∃ v, aQuiet P mu ok (F.put f oi.dst u) S v ∧ aLex P mu ops S K (l1 ++ l2) (F.put (F.put f oi.dst u) ok.dst v) m) := fun hx => by
    by_cases he : isEff mu ok = true
    ·rw [if_pos he] at hx ⊢
     refine (apart_op hsk hap' f u m _).2 (aOp_mono hx fun v m' ⟨hs', hl⟩ => ⟨hs', ?_⟩)
     rw [← comm]
     exact rest hl hs'
    ·rw [if_neg he] at hx ⊢
     obtain ⟨v, hv, hl⟩ := hx
     refine ⟨v, (apart_quiet hsk hap' f u).2 hv, ?_⟩
     rw [← comm]
     exact rest hl hm
   rcases aG_cases h with ⟨hg, hx⟩ | ⟨j, want, b, hg, hgu, hx⟩
   ·exact aG_mk (.inl ⟨hg, body hx⟩)
   ·refine aG_mk (.inr ⟨j, want, b, hg, (apart_guard hap' f u hg).trans hgu, ?_⟩)
    cases b
    ·simp only [Bool.false_eq_true, if_false] at hx ⊢
     rw [← comm]
     exact rest hx hm
    ·simp only [if_true] at hx ⊢
     exact body hx
end

section
variable {P : Program} {mu : List Nat} {n : Fi} {ds : List Deferred} {ops : Array Oper} {S : M → Prop} {K : F → M → Prop}

theorem aLex_pull (hsel : ∀ (j : Nat) (o : Oper) cs b, ops[j]? = some o → o.op ≠ .select cs b) {i : Nat} {oi : Oper} (hi : ops[i]? = some oi) (heff : isEff mu oi = true) :
    ∀ (l1 l2 : List Nat) {f : F} {m : M}, (∀ k ∈ l1, OkPair mu ops k i) → aLex P mu ops S K (l1 ++ i :: l2) f m → S m → aLex P mu ops S K (i :: (l1 ++ l2)) f m
 | [], l2, f, m, _, h, _ => h
 | k :: l1, l2, f, m, hp, h, hm => by
  simp only [List.cons_append, aLex] at h
  cases hk : ops[k]? with
  | none => simp [hk] at h
  | some ok =>
   simp only [hk] at h
   obtain ⟨hap, hek⟩ := hp k (by simp) ok oi hk hi
   have hap' := apart_symm hap
   obtain ⟨_, hdd, _⟩ := Oper.apart_spec hap
   have hsk := fun cs b => hsel k ok cs b hk
   have hsi := fun cs b => hsel i oi cs b hi
   have hne : isEff mu ok = false := by
    cases q : isEff mu ok
    ·rfl
    ·rw [hek q] at heff; cases heff
   have comm : ∀ z u, F.put (F.put f ok.dst z) oi.dst u = F.put (F.put f oi.dst u) ok.dst z := fun z u => F.put_comm f z u (fun d hd => hdd d hd)
   have rest := fun {z : PV} (hl : aLex P mu ops S K (l1 ++ i :: l2) (F.put f ok.dst z) m) => aLex_pull hsel hi heff l1 l2 (fun k hk => hp k (by simp [hk])) hl hm
   have tail : ∀ (z u : PV) (m' : M), (ok.guard = none ∧ aQuiet P mu ok f S z ∨ ∃ j want b, ok.guard = some (j, want) ∧ guardA ops f j want = some b ∧ (if b = true then aQuiet P mu ok f S z else z = .tp [])) →
       aLex P mu ops S K (l1 ++ l2) (F.put (F.put f ok.dst z) oi.dst u) m' → aLex P mu ops S K (k :: (l1 ++ l2)) (F.put f oi.dst u) m' := fun z u m' hz hl => by
    simp only [aLex, hk]
    rw [comm] at hl
    rcases hz with ⟨hg, hz⟩ | ⟨j, want, b, hg, hgu, hz⟩
    ·refine aG_mk (.inl ⟨hg, ?_⟩)
     rw [if_neg (by simp [hne])]
     exact ⟨z, (apart_quiet hsk hap' f u).2 hz, hl⟩
    ·refine aG_mk (.inr ⟨j, want, b, hg, (apart_guard hap' f u hg).trans hgu, ?_⟩)
     cases b
     ·simp only [Bool.false_eq_true, if_false] at hz ⊢
      rw [hz] at hl
      exact hl
     ·simp only [if_true] at hz ⊢
      rw [if_neg (by simp [hne])]
      exact ⟨z, (apart_quiet hsk hap' f u).2 hz, hl⟩
   have body : ∀ z, (ok.guard = none ∧ aQuiet P mu ok f S z ∨ ∃ j want b, ok.guard = some (j, want) ∧ guardA ops f j want = some b ∧ (if b = true then aQuiet P mu ok f S z else z = .tp [])) →
       aLex P mu ops S K (l1 ++ i :: l2) (F.put f ok.dst z) m → aLex P mu ops S K (i :: (k :: l1 ++ l2)) f m := fun z hz hl => by
    have h1 := rest hl
    simp only [aLex, hi] at h1
    rw [show k :: l1 ++ l2 = k :: (l1 ++ l2) from rfl]
    rw [aLex]
    simp only [hi]
    rcases aG_cases h1 with ⟨hg, hx⟩ | ⟨j, want, b, hg, hgu, hx⟩
    ·refine aG_mk (.inl ⟨hg, ?_⟩)
     rw [if_pos heff] at hx ⊢
     exact aOp_mono ((apart_op hsi hap f z m _).1 hx) fun v m' ⟨hs', hl'⟩ => ⟨hs', tail z v m' hz hl'⟩
    ·refine aG_mk (.inr ⟨j, want, b, hg, (apart_guard hap f z hg).symm.trans hgu, ?_⟩)
     cases b
     ·simp only [Bool.false_eq_true, if_false] at hx ⊢
      exact tail z _ m hz hx
     ·simp only [if_true] at hx ⊢
      rw [if_pos heff] at hx ⊢
      exact aOp_mono ((apart_op hsi hap f z m _).1 hx) fun v m' ⟨hs', hl'⟩ => ⟨hs', tail z v m' hz hl'⟩
   rcases aG_cases h with ⟨hg, hx⟩ | ⟨j, want, b, hg, hgu, hx⟩
   ·rw [if_neg (by simp [hne])] at hx
    obtain ⟨v, hv, hl⟩ := hx
    exact body v (.inl ⟨hg, hv⟩) hl
   ·cases b
    ·exact body (.tp []) (.inr ⟨j, want, false, hg, hgu, by simp⟩) (by simpa using hx)
    ·simp only [if_true] at hx
     rw [if_neg (by simp [hne])] at hx
     obtain ⟨v, hv, hl⟩ := hx
     exact body v (.inr ⟨j, want, true, hg, hgu, by simpa using hv⟩) hl

theorem lexOk_spec (h : lexOk mu ops = true) : Region.noSelect ops = true ∧ ∀ i oi, ops[i]? = some oi → (∀ e ∈ oi.after, Region.binds .any e = true → e.on < i) ∧
    ∀ k ok, k < i → ops[k]? = some ok → (∃ e ∈ oi.after, Region.binds .any e = true ∧ e.on = k) ∨ (ok.apart ops oi = true ∧ ¬ (isEff mu ok = true ∧ isEff mu oi = true)) ∨
     k ∈ upOf ops (List.range i).reverse (edgesOf oi) := by
 unfold lexOk at h
 simp only [Bool.and_eq_true, List.all_eq_true, List.mem_range] at h
 refine ⟨h.1, fun i oi hi => ?_⟩
 have hlt : i < ops.size := (Array.getElem?_eq_some_iff.1 hi).1
 have := h.2 i hlt
 simp only [hi, Bool.and_eq_true, List.all_eq_true, List.mem_range] at this
 obtain ⟨h1, h2⟩ := this
 refine ⟨fun e he hb => ?_, fun k ok hk hok => ?_⟩
 ·have := Array.all_eq_true_iff_forall_mem.1 h1 e he
  simpa [hb] using this
 ·have := h2 k hk
  simp only [hok, Bool.or_eq_true, Bool.and_eq_true, Bool.not_eq_true', Bool.and_eq_false_iff] at this
  have edge : ∀ j, (oi.after.any fun e => Region.binds .any e && e.on == j) = true → ∃ e ∈ oi.after, Region.binds .any e = true ∧ e.on = j := fun j hj => by
   obtain ⟨e, he, hb⟩ := Array.any_eq_true'.1 hj
   simp only [Bool.and_eq_true, beq_iff_eq] at hb
   exact ⟨e, he, hb.1, hb.2⟩
  rcases this with (h3 | ⟨h3, h4⟩) | h3
  ·exact .inl (edge k h3)
  ·refine .inr (.inl ⟨h3, fun ⟨q1, q2⟩ => ?_⟩)
   rcases h4 with h4 | h4
   ·rw [q1] at h4; cases h4
   ·rw [q2] at h4; cases h4
  ·exact .inr (.inr (by simpa using h3))

theorem mem_edgesOf {o : Oper} {k : Nat} : k ∈ edgesOf o ↔ ∃ e ∈ o.after, Region.binds .any e = true ∧ e.on = k := by
 unfold edgesOf
 simp [and_assoc]
def SpecU (mu : List Nat) (ops : Array Oper) (listed : Array Bool) : Prop := ∀ i oi, ops[i]? = some oi → listed.getD i true = false → (∀ e ∈ oi.after, Region.binds .any e = true → e.on < i) ∧
    ∀ k ok, k < i → listed.getD k true = false → ops[k]? = some ok → (∃ e ∈ oi.after, Region.binds .any e = true ∧ e.on = k) ∨ (ok.apart ops oi = true ∧ ¬ (isEff mu ok = true ∧ isEff mu oi = true)) ∨
     k ∈ upOf ops (List.range i).reverse (edgesOf oi)
theorem SpecU.set {listed : Array Bool} (h : SpecU mu ops listed) (j : Nat) : SpecU mu ops (listed.setIfInBounds j true) := by
 have keep : ∀ k, (listed.setIfInBounds j true).getD k true = false → listed.getD k true = false := fun k hk => by
  by_cases hkj : j = k
  ·subst hkj
   rcases Nat.lt_or_ge j listed.size with h' | h'
   ·simp [h'] at hk
   ·simp [Array.getElem?_eq_none h'] at hk
  ·rwa [getD_set_ne true hkj] at hk
 intro i oi hi hl
 obtain ⟨h1, h2⟩ := h i oi hi (keep i hl)
 exact ⟨h1, fun k ok hk hkl => h2 k ok hk (keep k hkl)⟩
theorem aLex_anyU {Q : Exit → Act → World → Prop} (hsel0 : Region.noSelect ops = true) (hbd : ∀ (j : Nat) (o : Oper), ops[j]? = some o → dstB n o = true) :
    ∀ (fuel : Nat) (l : List Nat) (listed : Array Bool) {f : F} {m : M} {G : Ghost} {a : Act} {w : World}, SpecU mu ops listed → l.length = fuel → listed.size = ops.size → l.Pairwise (· < ·) → (∀ i, i ∈ l ↔ i < ops.size ∧ listed.getD i true = false) →
     (∀ j oj, ops[j]? = some oj → listed.getD j true = true → ∀ k ∈ edgesOf oj, listed.getD k true = true) →
     aLex P mu ops S K l f m → S m → St n ds G f m a w → (∀ f' m' G' a' w', K f' m' → S m' → St n ds G' f' m' a' w' → Ext G w G' w' → Q .normal a' w') → wpAny P .any ops Q fuel listed a w := by
 have hsel := fun (j : Nat) (o : Oper) cs b h => Region.noSelect_spec hsel0 j o cs b h
 intro fuel
 have hready0 : ∀ (l : List Nat) (listed : Array Bool), listed.size = ops.size → (∀ i, i ∈ l ↔ i < ops.size ∧ listed.getD i true = false) → l = [] → Region.ready .any ops listed = [] := fun l listed hsz hmem hl => by
  rw [List.eq_nil_iff_forall_not_mem]
  intro i hi
  obtain ⟨h1, o, h2, _⟩ := mem_ready.1 hi
  have := (hmem i).2 ⟨(Array.getElem?_eq_some_iff.1 h2).1, h1⟩
  rw [hl] at this
  cases this
 induction fuel with
 | zero =>
  intro l listed f m G a w _ hlen hsz _ hmem _ h hm hSt hQ
  have hl : l = [] := List.eq_nil_of_length_eq_zero hlen
  subst hl
  exact ⟨hready0 [] listed hsz hmem rfl, hQ f m G a w h hm hSt (Ext.refl _ _)⟩
 | succ fuel ih =>
  intro l listed f m G a w hspec hlen hsz hsort hmem hchain h hm hSt hQ
  refine ⟨fun h0 => ?_, fun i hi => ?_⟩
  ·
   exfalso
   cases l with
   | nil => simp at hlen
   | cons i l =>
    obtain ⟨hlt, hun⟩ := (hmem i).1 (by simp)
    have : i ∈ Region.ready .any ops listed := mem_ready.2 ⟨hun, ops[i], Array.getElem?_eq_getElem hlt, fun e he hb => by
     have hlt' := (hspec i ops[i] (Array.getElem?_eq_getElem hlt) hun).1 e he hb
     by_cases hl : listed.getD e.on true = true
     ·have : e.on < listed.size := by omega
      simpa [this] using hl
     ·have hin := (hmem e.on).2 ⟨by omega, by simpa using hl⟩
      rcases List.mem_cons.1 hin with e1 | e1
      ·omega
      ·have := (List.pairwise_cons.1 hsort).1 _ e1
       omega⟩
    rw [h0] at this
    cases this
  ·obtain ⟨hun, oi, hoi, hedges⟩ := mem_ready.1 hi
   have hlt : i < ops.size := (Array.getElem?_eq_some_iff.1 hoi).1
   have hil : i ∈ l := (hmem i).2 ⟨hlt, hun⟩
   obtain ⟨l1, l2, rfl⟩ := List.append_of_mem hil
   have hsort' := List.pairwise_append.1 hsort
   have hk1 : ∀ k ∈ l1, k < i := fun k hk => hsort'.2.2 k hk i (by simp)
   have hlisted : ∀ j, (∃ e ∈ oi.after, Region.binds .any e = true ∧ e.on = j) → listed.getD j true = true := fun j ⟨e, he, hb, hj⟩ => by
    have := hedges e he hb
    rw [hj] at this
    have hjl : j < listed.size := by
     rcases Nat.lt_or_ge j listed.size with h' | h'
     ·exact h'
     ·simp [Array.getElem?_eq_none h'] at this
    simpa [hjl] using this
   have hpair : ∀ k ∈ l1, OkPair mu ops k i := fun k hk ok oi' hokk hoi' => by
    rw [hoi] at hoi'; cases hoi'
    have hku : listed.getD k true = false := ((hmem k).1 (by simp [hk])).2
    rcases (hspec i oi hoi hun).2 k ok (hk1 k hk) hku hokk with h3 | ⟨h3, h4⟩ | h3
    ·rw [hlisted k h3] at hku; cases hku
    ·refine ⟨h3, fun q1 => ?_⟩
     cases q2 : isEff mu oi
     ·rfl
     ·exact absurd ⟨q1, q2⟩ h4
    ·have := upOf_closed (Q := fun j => listed.getD j true = true) hchain _ _ (fun k hk => ?_) k h3
     ·rw [this] at hku; cases hku
     ·exact hlisted k (mem_edgesOf.1 hk)
   have hrest : ∀ {f' : F} {m' : M} {G' : Ghost} {a' : Act} {w' : World}, aLex P mu ops S K (l1 ++ l2) f' m' → S m' → St n ds G' f' m' a' w' → Ext G w G' w' → wpAny P .any ops Q fuel (listed.setIfInBounds i true) a' w' := fun h' hm' hSt' hE => by
    refine ih (l1 ++ l2) (listed.setIfInBounds i true) (hspec.set i) (by simp at hlen ⊢; omega) (by simpa using hsz) ?_ ?_ ?_ h' hm' hSt' (fun f'' m'' G'' a'' w'' k1 k2 k3 k4 => hQ f'' m'' G'' a'' w'' k1 k2 k3 (hE.trans k4))
    ·refine List.pairwise_append.2 ⟨hsort'.1, (List.pairwise_cons.1 hsort'.2.1).2, fun x hx y hy => hsort'.2.2 x hx y (by simp [hy])⟩
    ·intro j
     have hjm := hmem j
     by_cases hji : i = j
     ·subst hji
      have hnot1 : i ∉ l1 := fun hx => absurd (hk1 i hx) (Nat.lt_irrefl _)
      have hnot2 : i ∉ l2 := fun hx => absurd ((List.pairwise_cons.1 hsort'.2.1).1 i hx) (Nat.lt_irrefl _)
      refine ⟨fun hx => ?_, fun ⟨_, hx⟩ => ?_⟩
      ·rcases List.mem_append.1 hx with hx | hx
       ·exact absurd hx hnot1
       ·exact absurd hx hnot2
      ·have : i < listed.size := by omega
       simp [this] at hx
     ·rw [getD_set_ne true hji, ← hjm]
      simp [Ne.symm hji]
    ·intro j oj hoj hj k hk
     have keep : ∀ k, listed.getD k true = true → (listed.setIfInBounds i true).getD k true = true := fun k hk => by
      by_cases hki : i = k
      ·subst hki
       have : i < listed.size := by omega
       simp [this]
      ·rw [getD_set_ne true hki]; exact hk
     by_cases hji : i = j
     ·subst hji
      rw [hoi] at hoj; cases hoj
      exact keep k (hlisted k (mem_edgesOf.1 hk))
     ·rw [getD_set_ne true hji] at hj
      exact keep k (hchain j oj hoj hj k hk)
   have hbi := hbd i oi hoi
   unfold wpOp
   simp only [hoi]
   by_cases he : isEff mu oi = true
   ·have h' := aLex_pull hsel hoi he l1 l2 hpair h hm
    simp only [aLex, hoi] at h'
    rcases aG_cases h' with ⟨hg, hx⟩ | ⟨j, want, b, hg, hgu, hx⟩
    ·rw [if_pos he] at hx
     rw [if_pos (by simp [Region.wanted, hg])]
     exact .inl (aOp_sound0 hx hSt hbi (fun v m' G' y w' k1 k2 k3 => hrest k1.2 k1.1 k2 k3))
    ·have hw := guardA_spec hSt.fr hg hgu
     cases b
     ·rw [if_neg (by simp [hw])]
      exact hrest (by simpa using hx) hm (hSt.put hbi (.tp [] [] rfl (fun j h => by simp at h)) hSt.inv (Ext.refl _ _)) (Ext.refl _ _)
     ·simp only [if_true] at hx
      rw [if_pos he] at hx
      rw [if_pos hw]
      exact .inl (aOp_sound0 hx hSt hbi (fun v m' G' y w' k1 k2 k3 => hrest k1.2 k1.1 k2 k3))
   ·have he' : isEff mu oi = false := by simpa using he
    have hpk := aLex_peek hsel hbd hoi he' l1 l2 hpair h hm hSt
    rcases aG_cases hpk with ⟨hg, v, hv⟩ | ⟨j, want, b, hg, hgu, hx⟩
    ·rw [if_pos (by simp [Region.wanted, hg])]
     refine .inl (aOp_sound0 (aQuiet_op (K' := fun v' m' => v' = v ∧ m' = m) hm hv ⟨rfl, rfl⟩) hSt hbi (fun v' m' G' y w' k1 k2 k3 => ?_))
     obtain ⟨rfl, rfl⟩ := k1
     exact hrest (aLex_erase hsel hoi he' l1 l2 hpair h hm (.inl ⟨hg, hv⟩)) hm k2 k3
    ·have hw := guardA_spec hSt.fr hg hgu
     cases b
     ·rw [if_neg (by simp [hw])]
      exact hrest (aLex_erase hsel hoi he' l1 l2 hpair h hm (.inr ⟨j, want, false, hg, hgu, by simp⟩)) hm (hSt.put hbi (.tp [] [] rfl (fun j h => by simp at h)) hSt.inv (Ext.refl _ _)) (Ext.refl _ _)
     ·simp only [if_true] at hx
      obtain ⟨v, hv⟩ := hx
      rw [if_pos hw]
      refine .inl (aOp_sound0 (aQuiet_op (K' := fun v' m' => v' = v ∧ m' = m) hm hv ⟨rfl, rfl⟩) hSt hbi (fun v' m' G' y w' k1 k2 k3 => ?_))
      obtain ⟨rfl, rfl⟩ := k1
      exact hrest (aLex_erase hsel hoi he' l1 l2 hpair h hm (.inr ⟨j, want, true, hg, hgu, by simpa using hv⟩)) hm k2 k3
theorem aLex_any {Q : Exit → Act → World → Prop} (hok : lexOk mu ops = true) (hbd : ∀ (j : Nat) (o : Oper), ops[j]? = some o → dstB n o = true) :
    ∀ (fuel : Nat) (l : List Nat) (listed : Array Bool) {f : F} {m : M} {G : Ghost} {a : Act} {w : World}, l.length = fuel → listed.size = ops.size → l.Pairwise (· < ·) → (∀ i, i ∈ l ↔ i < ops.size ∧ listed.getD i true = false) →
     (∀ j oj, ops[j]? = some oj → listed.getD j true = true → ∀ k ∈ edgesOf oj, listed.getD k true = true) →
     aLex P mu ops S K l f m → S m → St n ds G f m a w → (∀ f' m' G' a' w', K f' m' → S m' → St n ds G' f' m' a' w' → Ext G w G' w' → Q .normal a' w') → wpAny P .any ops Q fuel listed a w := by
 obtain ⟨hsel0, hspec⟩ := lexOk_spec hok
 intro fuel l listed f m G a w
 exact aLex_anyU hsel0 hbd fuel l listed (fun i oi hi _ => ⟨(hspec i oi hi).1, fun k ok hk _ => (hspec i oi hi).2 k ok hk⟩)
end
end Go.Proofs.YthhhnfjcaicjnaaGreatDoor
