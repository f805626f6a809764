/-
 An operation on values without addresses does what the model's does.
-/
-- halved
import Derived.Test.YthhhnfjcaicjnaaGreatDoorGB
import Derived.Laws.BytesString
set_option linter.unusedVariables false
set_option linter.unusedSimpArgs false
namespace Go.Proofs.YthhhnfjcaicjnaaGreatDoor
open Go Go.RowKit

theorem eltB_spec {P : Program} {s : TypeId} (h : eltB P s = some (.int .u8)) : ∃ e, P.underlying s = some (.slice e) ∧ P.underlying e = some (.int .u8) := by
 unfold eltB tel at h
 cases hq : P.underlying s with
 | none => simp [hq] at h
 | some q => cases q <;> simp [hq] at h; exact ⟨_, rfl, h⟩
theorem bytesOf_spec : ∀ {xs : List PV} {ns : List Int}, bytesOf xs = some ns → xs.flatMap PV.cells = ns.map (fun n => PV.v (.int .u8 n))
 | [], ns, h => by simp [bytesOf] at h; subst h; rfl
 | x :: l, ns, h => by
  unfold bytesOf at h
  split at h
  ·rename_i hq; simp at hq
  ·rename_i n l' hq
   cases hq
   cases hl : bytesOf l with
   | none => simp [hl] at h
   | some r => simp [hl] at h; subst h; simp [List.flatMap_cons, bytesOf_spec hl, PV.cells]
  ·simp at h
theorem bytesOf_one : ∀ {xs : List PV} {ns : List Int}, bytesOf xs = some ns → ∀ x ∈ xs, x.cells.length = 1
 | [], ns, h => fun x hx => by simp at hx
 | x :: l, ns, h => by
  unfold bytesOf at h
  split at h
  ·rename_i hq; simp at hq
  ·rename_i n l' hq
   cases hq
   cases hl : bytesOf l with
   | none => simp [hl] at h
   | some r =>
    intro y hy
    rcases List.mem_cons.1 hy with rfl | hy
    ·rfl
    ·exact bytesOf_one hl y hy
  ·simp at h

section
variable {P : Program} {G : Ghost} {w : World} {m : M} {f : F} {a : Act} {o : Oper}

theorem reps_of (hF : FR G w f a.tmps) (l : List Operand) : (l.map (ev f)).length = (l.map a.eval).length ∧ ∀ j (h1 : j < (l.map (ev f)).length) (h2 : j < (l.map a.eval).length), Rep G w (l.map (ev f))[j] (l.map a.eval)[j] :=
 ⟨by simp, fun j h1 h2 => by simpa using ev_rep hF _⟩

def evParts (g : Operand → Value) (ps : Array (Nat × Operand)) : List (Nat × Value) := ps.toList.map fun p => (p.1, g p.2)
theorem evParts_eq (g : Operand → Value) (ps : Array (Nat × Operand)) : (ps.map fun (i, x) => (i, g x)) = (evParts g ps).toArray := by
 apply Array.ext'
 simp [evParts]
theorem parts_of (hF : FR G w f a.tmps) (ps : Array (Nat × Operand)) : (ps.toList.map fun p => (p.1, ev f p.2)).length = (evParts a.eval ps).length ∧
    ∀ j (h1 : j < (ps.toList.map fun p => (p.1, ev f p.2)).length) (h2 : j < (evParts a.eval ps).length), ((ps.toList.map fun p => (p.1, ev f p.2))[j]).1 = ((evParts a.eval ps)[j]).1 ∧ Rep G w ((ps.toList.map fun p => (p.1, ev f p.2))[j]).2 ((evParts a.eval ps)[j]).2 :=
 ⟨by simp [evParts], fun j h1 h2 => by simpa [evParts] using ev_rep hF _⟩

theorem builtin_sound (hI : Inv G m w) (b : Builtin) (ts : Array TypeId) (ty : TypeId) (cs : Array Bool) {args : List PV} {vs : List Value} (hl : args.length = vs.length) (hr : ∀ j (h1 : j < args.length) (h2 : j < vs.length), Rep G w args[j] vs[j])
    {p : Prop} {v : PV} {m' : M} (h : aBuiltin P b ts args m = .ok p v m') (hp : p) : Stepped P G w ((builtin b ts ty cs vs.toArray).run P w) v m' := by
 unfold aBuiltin at h
 split at h
 ·
  rename_i s
  match vs, hl, hr with
  | [y], _, hr =>
   have h0 := hr 0 (by simp) (by simp)
   simp only [List.getElem_cons_zero] at h0
   obtain rfl := h0.atomEq
   simp only [AR.ok.injEq] at h
   obtain ⟨rfl, rfl, rfl⟩ := h
   obtain ⟨ts⟩ := ts
   cases ts with
   | nil => simp at hp
   | cons t ts =>
    simp at hp
    obtain ⟨hu, rfl⟩ := hp
    refine Good.stepped (s := Builtin.len_ #[t] ty #[.string s]) (Good.same (y := .int .i64 s.size) ?_ (.v rfl) hI)
    simp [Builtin.len_, run_underlying hu, goInt]
 ·rename_i o' xs
  match vs, hl, hr with
  | [y], _, hr =>
   have h0 := hr 0 (by simp) (by simp)
   simp only [List.getElem_cons_zero] at h0
   obtain ⟨ts⟩ := ts
   match ts with
   | [t] =>
    cases ht : tel P t with
    | none => simp [ht] at h
    | some e =>
     simp only [List.map_cons, List.map_nil, ht, AR.ok.injEq] at h
     obtain ⟨rfl, rfl, rfl⟩ := h
     have hy : ∃ ad cap, y = .slice ad xs.length cap := by
      rcases sl_inv h0 with ⟨⟨ao, rfl⟩, rfl, _⟩ | ⟨b, off, cap, sz, cs, rfl, _⟩
      ·exact ⟨_, _, rfl⟩
      ·exact ⟨_, _, rfl⟩
     obtain ⟨ad, cap, rfl⟩ := hy
     refine Good.stepped (s := Builtin.len_ #[t] ty #[.slice ad xs.length cap]) (Good.same (y := .int .i64 xs.length) ?_ (.v rfl) hI)
     simp [Builtin.len_, run_underlying (under_of ht), goInt]
   | [] => simp at h
   | _ :: _ :: _ => simp at h
 ·rename_i id off n
  match vs, hl, hr with
  | [y], _, hr =>
   have h0 := hr 0 (by simp) (by simp)
   simp only [List.getElem_cons_zero] at h0
   obtain ⟨ts⟩ := ts
   match ts with
   | [t] =>
    cases ht : tel P t with
    | none => simp [ht] at h
    | some e =>
     simp only [List.map_cons, List.map_nil, ht, AR.ok.injEq] at h
     obtain ⟨rfl, rfl, rfl⟩ := h
     cases h0 with
     | bs _ _ _ cap hid hm hcap hmax =>
     refine Good.stepped (s := Builtin.len_ #[t] ty #[.slice _ n cap]) (Good.same (y := .int .i64 n) ?_ (.v rfl) hI)
     simp [Builtin.len_, run_underlying (under_of ht), goInt]
   | [] => simp at h
   | _ :: _ :: _ => simp at h
 ·rename_i k x k' y'
  match vs, hl, hr with
  | [u, u'], _, hr =>
   have h0 := (hr 0 (by simp) (by simp)).atomEq
   have h1 := (hr 1 (by simp) (by simp)).atomEq
   simp only [List.getElem_cons_zero, List.getElem_cons_succ] at h0 h1
   subst h0 h1
   simp only [AR.ok.injEq] at h
   obtain ⟨rfl, rfl, rfl⟩ := h
   exact Good.stepped (s := Builtin.max_ ts ty #[.int k x, .int k' y']) (Good.same (y := .int k _) (by simp [Builtin.max_, Builtin.max2]) (.v rfl) hI)
 ·rename_i k x k' y'
  match vs, hl, hr with
  | [u, u'], _, hr =>
   have h0 := (hr 0 (by simp) (by simp)).atomEq
   have h1 := (hr 1 (by simp) (by simp)).atomEq
   simp only [List.getElem_cons_zero, List.getElem_cons_succ] at h0 h1
   subst h0 h1
   simp only [AR.ok.injEq] at h
   obtain ⟨rfl, rfl, rfl⟩ := h
   exact Good.stepped (s := Builtin.min_ ts ty #[.int k x, .int k' y']) (Good.same (y := .int k _) (by simp [Builtin.min_, Builtin.min2]) (.v rfl) hI)
 ·rename_i o' xs y
  match vs, hl, hr with
  | [u, u'], _, hr =>
   have h0 := hr 0 (by simp) (by simp)
   have h1 := hr 1 (by simp) (by simp)
   simp only [List.getElem_cons_zero, List.getElem_cons_succ] at h0 h1
   obtain ⟨ts⟩ := ts
   simp only at h
   match ts, h with
   | [t, t'], h =>
    cases he : elems m y with
    | none => simp [he] at h
    | some ys =>
     cases ht : tel P t with
     | none => simp [he, ht] at h
     | some e =>
      cases hd : tdat P e with
      | none => simp [he, ht, hd] at h
      | some d =>
       cases ht' : P.underlying t' with
       | none => simp [he, ht, hd, ht'] at h
       | some td =>
        simp only [he, ht, hd, ht'] at h
        by_cases hk : okSrc y td d.sz = true
        ·rw [if_pos hk] at h
         simp only [AR.ok.injEq] at h
         obtain ⟨rfl, rfl, rfl⟩ := h
         obtain ⟨q1, q2, q3, q4, q5⟩ := hp
         exact Good.stepped (s := Builtin.append_ #[t, t'] ty #[u, u']) (append_good ht hd ht' hI h0 h1 he hk q1 q2 q3 q4 q5)
        ·rw [if_neg hk] at h; cases h
   | [], h => simp at h
   | [_], h => simp at h
   | _ :: _ :: _ :: _, h => simp at h
 ·cases h

theorem range_zip (n : Nat) (ps : Array (Nat × Operand)) (h : ps.toList.map (·.1) = List.range n) (g : Operand → Value) : (evParts g ps).toArray.toList = (List.range n).zip (ps.toList.map fun p => g p.2) ∧ (ps.toList.map fun p => g p.2).length = n := by
 refine ⟨?_, ?_⟩
 ·rw [← h, List.zip_map']
  rfl
 ·have := congrArg List.length h
  simpa using this

theorem rep_pair {x y : PV} {u v : Value} (h1 : Rep G w x u) (h2 : Rep G w y v) : Rep G w (.tp [x, y]) (.tuple #[u, v]) := by
 refine .tp [x, y] [u, v] rfl fun j q1 q2 => ?_
 match j, q1, q2 with
 | 0, _, _ => exact h1
 | 1, _, _ => exact h2
theorem nilK_spec {x : PV} {u : Value} (h : Rep G w x u) {k : NK} {b : Bool} (hk : nilK x = some (k, b)) :
    (k = .nki ∧ ((b = true ∧ u = .nilIface) ∨ (b = false ∧ ∃ t y, u = .iface t y))) ∨ (k = .nkf ∧ ((b = true ∧ u = .nilFunc) ∨ (b = false ∧ ∃ g y z, u = .func g y z))) ∨ (k = .nkp ∧ ((b = true ∧ u = .pointer none) ∨ (b = false ∧ ∃ ad, u = .pointer (some ad)))) := by
 cases h with
 | v h =>
  cases u <;> simp only [nilK, reduceCtorEq, Option.some.injEq, Prod.mk.injEq] at hk <;> try (obtain ⟨rfl, rfl⟩ := hk)
  case nilIface => exact .inl ⟨rfl, .inl ⟨rfl, rfl⟩⟩
  case nilFunc => exact .inr (.inl ⟨rfl, .inl ⟨rfl, rfl⟩⟩)
  case pointer ad =>
   cases ad with
   | none =>
    simp only [Option.some.injEq, Prod.mk.injEq] at hk
    obtain ⟨rfl, rfl⟩ := hk
    exact .inr (.inr ⟨rfl, .inl ⟨rfl, rfl⟩⟩)
   | some ad => simp at hk
 | bp id off h hm =>
  simp only [nilK, Option.some.injEq, Prod.mk.injEq] at hk
  obtain ⟨rfl, rfl⟩ := hk
  exact .inr (.inr ⟨rfl, .inr ⟨rfl, _, rfl⟩⟩)
 | ep xs b off c hc hp hr =>
  simp only [nilK, Option.some.injEq, Prod.mk.injEq] at hk
  obtain ⟨rfl, rfl⟩ := hk
  exact .inr (.inr ⟨rfl, .inr ⟨rfl, _, rfl⟩⟩)
 | fn g a b a' b' =>
  cases g <;> simp only [nilK, reduceCtorEq, Option.some.injEq, Prod.mk.injEq] at hk
  obtain ⟨rfl, rfl⟩ := hk
  exact .inr (.inl ⟨rfl, .inr ⟨rfl, _, _, _, rfl⟩⟩)
 | ifc t x y h =>
  simp only [nilK, Option.some.injEq, Prod.mk.injEq] at hk
  obtain ⟨rfl, rfl⟩ := hk
  exact .inl ⟨rfl, .inr ⟨rfl, _, _, rfl⟩⟩
 | _ => simp [nilK] at hk
theorem eqNil_two {x y : PV} {u v : Value} (hx : Rep G w x u) (hy : Rep G w y v) {k : NK} {c : Bool} (h : eqNil x y = some (k, c)) :
    (∃ t1 a1 t2 a2, u = .iface t1 a1 ∧ v = .iface t2 a2 ∧ t1 ≠ t2 ∧ k = .nki ∧ c = false) ∨ (∃ b b', nilK x = some (k, b) ∧ nilK y = some (k, b') ∧ (b || b') = true ∧ c = (b && b')) := by
 unfold eqNil at h
 split at h
 ·split at h
  ·cases h
  ·rename_i hne
   cases h
   cases hx with
   | ifc _ _ y' _ =>
    cases hy with
    | ifc _ _ z' _ => exact .inl ⟨_, _, _, _, rfl, rfl, hne, rfl, rfl⟩
 ·split at h
  ·rename_i k1 b1 k2 b2 e1 e2
   split at h
   ·rename_i hc
    simp only [Bool.and_eq_true, decide_eq_true_eq] at hc
    obtain ⟨rfl, hc2⟩ := hc
    simp only [Option.some.injEq, Prod.mk.injEq] at h
    obtain ⟨rfl, rfl⟩ := h
    exact .inr ⟨b1, b2, e1, e2, hc2, rfl⟩
   ·cases h
  ·cases h
theorem nkT_spec {t : TypeId} {k : NK} (h : nkT P t = some k) : (k = .nki ∧ ∃ ms, P.underlying t = some (.interface ms)) ∨ (k = .nkf ∧ ∃ a b c, P.underlying t = some (.func a b c)) ∨ (k = .nkp ∧ ∃ e, P.underlying t = some (.pointer e)) := by
 unfold nkT at h
 split at h <;> cases h
 ·exact .inl ⟨rfl, _, by assumption⟩
 ·exact .inr (.inl ⟨rfl, _, _, _, by assumption⟩)
 ·exact .inr (.inr ⟨rfl, _, by assumption⟩)
def isNil' (u : Value) : Prop := u = .nilIface ∨ (∃ t y, u = .iface t y) ∨ u = .nilFunc ∨ (∃ g y z, u = .func g y z) ∨ ∃ ad, u = .pointer ad
theorem nilK_is {x : PV} {u : Value} (h : Rep G w x u) {k : NK} {b : Bool} (hk : nilK x = some (k, b)) : isNil' u := by
 rcases nilK_spec h hk with ⟨_, ⟨_, h⟩ | ⟨_, h⟩⟩ | ⟨_, ⟨_, h⟩ | ⟨_, h⟩⟩ | ⟨_, ⟨_, h⟩ | ⟨_, ad, h⟩⟩
 ·exact .inl h
 ·exact .inr (.inl h)
 ·exact .inr (.inr (.inl h))
 ·exact .inr (.inr (.inr (.inl h)))
 ·exact .inr (.inr (.inr (.inr ⟨_, h⟩)))
 ·exact .inr (.inr (.inr (.inr ⟨_, h⟩)))
theorem eqNil_is {x y : PV} {u v : Value} (hx : Rep G w x u) (hy : Rep G w y v) {k : NK} {c : Bool} (h : eqNil x y = some (k, c)) : isNil' u ∧ isNil' v := by
 rcases eqNil_two hx hy h with ⟨t1, a1, t2, a2, rfl, rfl, _⟩ | ⟨b, b', h1, h2, _⟩
 ·exact ⟨.inr (.inl ⟨_, _, rfl⟩), .inr (.inl ⟨_, _, rfl⟩)⟩
 ·exact ⟨nilK_is hx h1, nilK_is hy h2⟩
theorem eqNil_run {x y : PV} {u v : Value} (hx : Rep G w x u) (hy : Rep G w y v) {k : NK} {c : Bool} (h : eqNil x y = some (k, c)) {t : TypeId} (ht : nkT P t = some k) :
    (Op.equal t u v).run P w = .ok c w ∧ (u = .nilIface ∧ v = .nilIface → c = true) ∧ (∀ xs, u ≠ .agg xs) ∧ (∀ kk n, u ≠ .int kk n) ∧ (∀ s, u ≠ .string s) := by
 unfold Op.equal Op.maxDepth
 rw [show (10000 : Nat) = 9999 + 1 from rfl, Op.equalIn]
 rcases eqNil_two hx hy h with ⟨t1, a1, t2, a2, rfl, rfl, hne, rfl, rfl⟩ | ⟨b, b', h1, h2, hor, rfl⟩
 ·rcases nkT_spec ht with ⟨_, ms, hu⟩ | ⟨e, _⟩ | ⟨e, _⟩
  ·refine ⟨?_, (fun h => nomatch h.1), (fun _ h => nomatch h), (fun _ _ h => nomatch h), (fun _ h => nomatch h)⟩
   simp [run_underlying hu, hne]
  ·cases e
  ·cases e
 ·have hs1 := nilK_spec hx h1
  have hs2 := nilK_spec hy h2
  rcases nkT_spec ht with ⟨rfl, ms, hu⟩ | ⟨rfl, pa, pb, pc, hu⟩ | ⟨rfl, e, hu⟩
  ·have q1 : (b = true ∧ u = .nilIface) ∨ (b = false ∧ ∃ t y, u = .iface t y) := by rcases hs1 with ⟨_, q⟩ | ⟨e, _⟩ | ⟨e, _⟩ <;> first | exact q | cases e
   have q2 : (b' = true ∧ v = .nilIface) ∨ (b' = false ∧ ∃ t y, v = .iface t y) := by rcases hs2 with ⟨_, q⟩ | ⟨e, _⟩ | ⟨e, _⟩ <;> first | exact q | cases e
   rcases q1 with ⟨rfl, rfl⟩ | ⟨rfl, t1, a1, rfl⟩ <;> rcases q2 with ⟨rfl, rfl⟩ | ⟨rfl, t2, a2, rfl⟩
   ·exact ⟨by simp [run_underlying hu], fun _ => rfl, (fun _ h => nomatch h), (fun _ _ h => nomatch h), (fun _ h => nomatch h)⟩
   ·exact ⟨by simp [run_underlying hu], (fun h => nomatch h.2), (fun _ h => nomatch h), (fun _ _ h => nomatch h), (fun _ h => nomatch h)⟩
   ·exact ⟨by simp [run_underlying hu], (fun h => nomatch h.1), (fun _ h => nomatch h), (fun _ _ h => nomatch h), (fun _ h => nomatch h)⟩
   ·simp at hor
  ·have q1 : (b = true ∧ u = .nilFunc) ∨ (b = false ∧ ∃ g y z, u = .func g y z) := by rcases hs1 with ⟨e, _⟩ | ⟨_, q⟩ | ⟨e, _⟩ <;> first | exact q | cases e
   have q2 : (b' = true ∧ v = .nilFunc) ∨ (b' = false ∧ ∃ g y z, v = .func g y z) := by rcases hs2 with ⟨e, _⟩ | ⟨_, q⟩ | ⟨e, _⟩ <;> first | exact q | cases e
   rcases q1 with ⟨rfl, rfl⟩ | ⟨rfl, t1, a1, b1, rfl⟩ <;> rcases q2 with ⟨rfl, rfl⟩ | ⟨rfl, t2, a2, b2, rfl⟩
   ·exact ⟨by simp [run_underlying hu], (fun h => nomatch h.1), (fun _ h => nomatch h), (fun _ _ h => nomatch h), (fun _ h => nomatch h)⟩
   ·exact ⟨by simp [run_underlying hu], (fun h => nomatch h.1), (fun _ h => nomatch h), (fun _ _ h => nomatch h), (fun _ h => nomatch h)⟩
   ·exact ⟨by simp [run_underlying hu], (fun h => nomatch h.1), (fun _ h => nomatch h), (fun _ _ h => nomatch h), (fun _ h => nomatch h)⟩
   ·simp at hor
  ·have q1 : (b = true ∧ u = .pointer none) ∨ (b = false ∧ ∃ ad, u = .pointer (some ad)) := by rcases hs1 with ⟨e, _⟩ | ⟨e, _⟩ | ⟨_, q⟩ <;> first | exact q | cases e
   have q2 : (b' = true ∧ v = .pointer none) ∨ (b' = false ∧ ∃ ad, v = .pointer (some ad)) := by rcases hs2 with ⟨e, _⟩ | ⟨e, _⟩ | ⟨_, q⟩ <;> first | exact q | cases e
   rcases q1 with ⟨rfl, rfl⟩ | ⟨rfl, a1, rfl⟩ <;> rcases q2 with ⟨rfl, rfl⟩ | ⟨rfl, a2, rfl⟩
   ·exact ⟨by simp [run_underlying hu], (fun h => nomatch h.1), (fun _ h => nomatch h), (fun _ _ h => nomatch h), (fun _ h => nomatch h)⟩
   ·exact ⟨by simp [run_underlying hu], (fun h => nomatch h.1), (fun _ h => nomatch h), (fun _ _ h => nomatch h), (fun _ h => nomatch h)⟩
   ·exact ⟨by simp [run_underlying hu], (fun h => nomatch h.1), (fun _ h => nomatch h), (fun _ _ h => nomatch h), (fun _ h => nomatch h)⟩
   ·simp at hor
theorem eqGuard_nil {op : BinOp} {t : TypeId} {x y : Operand} {u v : Value} (hc : u = .nilIface ∧ v = .nilIface → (cstO x || cstO y) = true) (ha : ∀ xs, u ≠ .agg xs) (w : World) : (eqGuard op t x y u v).run P w = .ok () w := by
 unfold eqGuard
 by_cases hn : u = .nilIface ∧ v = .nilIface
 ·have hcc := hc hn
  obtain ⟨rfl, rfl⟩ := hn
  cases x <;> cases y <;> first | exact Bool.noConfusion (show false = true from hcc) | (cases op <;> rfl)
 ·cases u <;> first
    | exact absurd rfl (ha _)
    | (cases op <;> rfl)
    | (cases v <;> first | exact absurd ⟨rfl, rfl⟩ hn | (cases op <;> rfl))
theorem nil_good {op : BinOp} {t : TypeId} {x y : Operand} {px py : PV} {vx vy : Value} (hx : Rep G w px vx) (hy : Rep G w py vy) (hI : Inv G m w) {p : Prop} {r : PV} {m' : M} (h : aNil P op t x y px py m = .ok p r m') (hp : p) :
    Good G w ((do eqGuard op t x y vx vy; binOp op t vx vy : Sem Value).run P w) r m' := by
 unfold aNil at h
 split at h
 ·rename_i k c he
  simp only [AR.ok.injEq] at h
  obtain ⟨rfl, rfl, rfl⟩ := h
  obtain ⟨h1, h0, h2, h3, h4⟩ := eqNil_run hx hy he hp.1
  rw [Sem.run_bind, eqGuard_nil (fun q => hp.2 (h0 q)) h2 w]
  refine Good.same (y := .bool c) ?_ (.v rfl) hI
  simp only [Result.andThen_ok]
  obtain ⟨n1, n2⟩ := eqNil_is hx hy he
  clear hx hy he h2 h3 h4 h0
  rcases n1 with rfl | ⟨_, _, rfl⟩ | rfl | ⟨_, _, _, rfl⟩ | ⟨_, rfl⟩ <;> rcases n2 with rfl | ⟨_, _, rfl⟩ | rfl | ⟨_, _, _, rfl⟩ | ⟨_, rfl⟩ <;> (simp [binOp, h1]; done)
 ·rename_i k c he
  simp only [AR.ok.injEq] at h
  obtain ⟨rfl, rfl, rfl⟩ := h
  obtain ⟨h1, h0, h2, h3, h4⟩ := eqNil_run hx hy he hp.1
  rw [Sem.run_bind, eqGuard_nil (fun q => hp.2 (h0 q)) h2 w]
  refine Good.same (y := .bool !c) ?_ (.v rfl) hI
  simp only [Result.andThen_ok]
  obtain ⟨n1, n2⟩ := eqNil_is hx hy he
  clear hx hy he h2 h3 h4 h0
  rcases n1 with rfl | ⟨_, _, rfl⟩ | rfl | ⟨_, _, _, rfl⟩ | ⟨_, rfl⟩ <;> rcases n2 with rfl | ⟨_, _, rfl⟩ | rfl | ⟨_, _, _, rfl⟩ | ⟨_, rfl⟩ <;> (simp [binOp, h1]; done)
 ·cases h
theorem isNilS_eval {y : Operand} (h : isNilS y = true) (a : Act) : a.eval y = .slice none 0 0 := by
 unfold isNilS at h
 split at h
 ·rfl
 ·cases h
theorem bsNil_good {t : TypeId} {x y : Operand} {id o l : Nat} {u v : Value} (hx : Rep G w (.bs id o l) u) (hv : v = .slice none 0 0) (hI : Inv G m w) (ht : sliceT P t = true) :
    Good G w ((do eqGuard .eql t x y u v; binOp .eql t u v : Sem Value).run P w) (.v (.bool false)) m := by
 subst hv
 cases hx with
 | bs _ _ _ cap hid hm hcap hmax =>
 unfold sliceT at ht
 split at ht
 ·rename_i e hu
  rw [Sem.run_bind, eqGuard_nil (u := .slice (some ⟨G.box id, o, none⟩) l cap) (v := .slice none 0 0) (fun q => nomatch q.1) (fun _ h => nomatch h) w]
  refine Good.same (y := .bool false) ?_ (.v rfl) hI
  simp only [Result.andThen_ok]
  have h : ∀ d : Nat, (Op.equalIn (d + 2) t (.slice (some ⟨G.box id, o, none⟩) l cap) (.slice none 0 0)).run P w = .ok false w := fun d => by simp [Op.equalIn, run_underlying hu]
  simp only [binOp]
  simp [Op.equal, Op.maxDepth, h 9998]
 ·cases ht
theorem step_sound0 (hI : Inv G m w) (hF : FR G w f a.tmps) {mu : Bool} {p : Prop} {v : PV} {m' : M} (h : aStep0 P mu o.op f m = .ok p v m') (hp : p) : Stepped P G w ((execOp a.eval o).run P w) v m' := by
 obtain ⟨dst, op, ty, pos, after, guard⟩ := o
 simp only at h
 cases op <;> simp only [aStep0, reduceCtorEq] at h
 case move x =>
  simp only [AR.ok.injEq] at h
  obtain ⟨rfl, rfl, rfl⟩ := h
  exact ⟨_, _, w, G, rfl, .inl rfl, ev_rep hF x, hI, Ext.refl _ _⟩
 case assign x =>
  simp only [AR.ok.injEq] at h
  obtain ⟨rfl, rfl, rfl⟩ := h
  exact ⟨_, _, w, G, rfl, .inl rfl, ev_rep hF x, hI, Ext.refl _ _⟩
 case pick c x y =>
  split at h
  ·rename_i t ht
   simp only [AR.ok.injEq] at h
   obtain ⟨rfl, rfl, rfl⟩ := h
   have hc := ev_rep hF c
   rw [ht] at hc
   have hc := hc.atomEq
   refine ⟨.value (if t then a.eval x else a.eval y), _, w, G, ?_, .inl rfl, ?_, hI, Ext.refl _ _⟩
   ·simp [execOp, hc, asBool]
   ·cases t
    ·exact ev_rep hF y
    ·exact ev_rep hF x
  ·cases h
 case box e x =>
  have hx := ev_rep hF x
  split at h
  ·simp only [AR.ok.injEq] at h
   obtain ⟨rfl, rfl, rfl⟩ := h
   have hrl := hx.rl hp
   obtain ⟨G', h1, h2, h3⟩ := new_bp (e := e) hI hrl (Pushed.alloc w (.cells (a.eval x).cells.toList.toArray e))
   simp only [Array.toArray_toList] at h1 h2 h3
   exact Good.stepped (s := Instr.box e (a.eval x)) ⟨_, _, G', rfl, h1, h2, h3⟩
  ·simp only [AR.ok.injEq] at h
   obtain ⟨rfl, rfl, rfl⟩ := h
   obtain ⟨G', h1, h2, h3⟩ := new_ep (e := e) hI hx.settle hp (Pushed.alloc w (.cells (a.eval x).cells e))
   exact Good.stepped (s := Instr.box e (a.eval x)) ⟨_, _, G', rfl, h1, h2, h3⟩
 case alloc e =>
  cases hd : tdat P e with
  | none => simp [hd] at h
  | some d =>
   simp only [hd] at h
   obtain ⟨ti, td, k1, k2, k3, _⟩ := info_of hd
   have hx := ofV_rep G w d.zero
   have hrun : (Instr.alloc e true (.tuple #[])).run P w = .ok (.pointer (some ⟨w.heap.size, 0, none⟩)) (w.alloc (.cells d.zero.cells e)) := by
    simp only [Instr.alloc, Sem.run_bind, run_zeroValue k1 k3, Result.andThen_ok]
    rfl
   split at h
   ·simp only [AR.ok.injEq] at h
    obtain ⟨rfl, rfl, rfl⟩ := h
    have hrl := hx.rl hp
    obtain ⟨G', h1, h2, h3⟩ := new_bp (e := e) hI hrl (Pushed.alloc w (.cells d.zero.cells.toList.toArray e))
    simp only [Array.toArray_toList] at h1 h2 h3
    exact Good.stepped (s := Instr.alloc e true (.tuple #[])) ⟨_, _, G', hrun, h1, h2, h3⟩
   ·simp only [AR.ok.injEq] at h
    obtain ⟨rfl, rfl, rfl⟩ := h
    obtain ⟨G', h1, h2, h3⟩ := new_ep (e := e) hI hx.settle hp (Pushed.alloc w (.cells d.zero.cells e))
    exact Good.stepped (s := Instr.alloc e true (.tuple #[])) ⟨_, _, G', hrun, h1, h2, h3⟩
 case build t ps =>
  cases hfl : tflds P t with
  | none =>
   cases hd : tdat P t with
   | none => simp [hfl, hd] at h
   | some d =>
    cases hta : tarr P t with
    | none => simp [hfl, hd, hta] at h
    | some q =>
     obtain ⟨n, e⟩ := q
     cases hde : tdat P e with
     | none => simp [hfl, hd, hta, hde] at h
     | some de =>
      simp only [hfl, hd, hta, hde, AR.ok.injEq] at h
      obtain ⟨rfl, rfl, rfl⟩ := h
      obtain ⟨q1, q2⟩ := parts_of hF ps
      have := buildArr_good hta hde hd hI _ _ q1 q2 hp.1 hp.2
      have := Good.stepped (s := Instr.build t (evParts a.eval ps).toArray) this
      rw [← evParts_eq] at this
      exact this
  | some fl =>
   cases hd : tdat P t with
   | none => simp [hfl, hd] at h
   | some d =>
    simp only [hfl, hd, AR.ok.injEq] at h
    obtain ⟨rfl, rfl, rfl⟩ := h
    obtain ⟨q1, q2⟩ := parts_of hF ps
    have := build_good hfl hd hI _ _ q1 q2 hp.1 hp.2
    have := Good.stepped (s := Instr.build t (evParts a.eval ps).toArray) this
    rw [← evParts_eq] at this
    exact this
 case buildSlice t n ps =>
  cases ht : tel P t with
  | none => simp [ht] at h
  | some e =>
   cases hd : tdat P e with
   | none => simp [ht, hd] at h
   | some d =>
    simp only [ht, hd] at h
    split at h
    ·simp only [AR.ok.injEq] at h
     obtain ⟨rfl, rfl, rfl⟩ := h
     obtain ⟨p1, ⟨p2, p3⟩, p4⟩ := hp
     obtain ⟨z1, z2⟩ := range_zip n ps p1 a.eval
     have hys : ∀ j (h1 : j < (ps.toList.map fun p => ev f p.2).length) (h2 : j < (ps.toList.map fun p => a.eval p.2).length), Rep G w (ps.toList.map fun p => ev f p.2)[j] (ps.toList.map fun p => a.eval p.2)[j] := fun j h1 h2 => by simpa using ev_rep hF _
     have hrl : RL G w ((ps.toList.map fun p => ev f p.2).flatMap PV.cells) ((ps.toList.map fun p => a.eval p.2).flatMap fun v => v.cells.toList) := RL.flat (by simp) (fun j h1 h2 => (hys j h1 h2).rl (p4 _ (List.getElem_mem _)).2)
     have hvs : ∀ u ∈ ps.toList.map (fun p => a.eval p.2), u.cells.size = d.sz := fun u hu => by
      obtain ⟨j, hj, rfl⟩ := List.mem_iff_getElem.1 hu
      have hj' : j < (ps.toList.map fun p => ev f p.2).length := by simpa using hj
      have q := (hys j hj' hj).rl (p4 _ (List.getElem_mem hj')).2
      have q1 := q.len
      rw [(p4 _ (List.getElem_mem hj')).1] at q1
      simpa using q1.symm
     have hrun := buildSlice_run ht hd n _ _ z1 z2 p3 hvs w
     obtain ⟨G', h1, h2, h3⟩ := new_bs (e := e) n (by unfold maxLen; omega) hI hrl (Pushed.alloc w _)
     have := Good.stepped (s := Instr.buildSlice t n (evParts a.eval ps).toArray) ⟨_, _, G', hrun, h1, h2, h3⟩
     rw [← evParts_eq] at this
     exact this
    ·simp only [AR.ok.injEq] at h
     obtain ⟨rfl, rfl, rfl⟩ := h
     obtain ⟨p1, ⟨p2, p3⟩, p4⟩ := hp
     obtain ⟨z1, z2⟩ := range_zip n ps p1 a.eval
     have := Good.stepped (s := Instr.buildSlice t n (evParts a.eval ps).toArray) (buildSlice_good ht hd hI n _ _ _ z1 z2 (by simp) (fun j h1 h2 => by simpa using ev_rep hF _) p3 p2 p4)
     rw [← evParts_eq] at this
     exact this
 case load t x =>
  have hx := ev_rep hF x
  cases hd : tdat P t with
  | none => simp [hd] at h
  | some d =>
   cases hev : ev f x <;> simp only [hd, hev, reduceCtorEq] at h <;> rw [hev] at hx
   case ep xs =>
    simp only [AR.ok.injEq] at h
    obtain ⟨rfl, rfl, rfl⟩ := h
    exact Good.stepped (s := Instr.loadAt t (a.eval x)) (load_ep hd hI hx hp)
   case bp id off =>
    cases hg : m.get id with
    | none => simp [hg] at h
    | some c =>
     simp only [hg, AR.ok.injEq] at h
     obtain ⟨rfl, rfl, rfl⟩ := h
     exact Good.stepped (s := Instr.loadAt t (a.eval x)) (load_bp hd hI hg hx hp)
 case store t x y =>
  have hx := ev_rep hF x
  cases hd : tdat P t with
  | none => simp [hd] at h
  | some d =>
   cases hev : ev f x <;> simp only [hd, hev, reduceCtorEq] at h <;> rw [hev] at hx
   case bp id off =>
    cases hg : m.get id with
    | none => simp [hg] at h
    | some c =>
     simp only [hg, AR.ok.injEq] at h
     obtain ⟨rfl, rfl, rfl⟩ := h
     obtain ⟨w', h1, h2, h3⟩ := store_good hd hI hg hx (ev_rep hF y) hp.1 hp.2.1 hp.2.2
     refine ⟨.skip, undef, w', G, ?_, .inr ⟨rfl, rfl⟩, .tp [] [] rfl (fun j h => by simp at h), h2, h3⟩
     show (do Instr.storeAt t (a.eval x) (a.eval y); pure .skip : Sem Next).run P w = _
     rw [Sem.run_bind, h1]
     rfl
 case nilCheck x =>
  have hx := ev_rep hF x
  obtain ⟨y, hy⟩ : ∃ y, a.eval x = y := ⟨_, rfl⟩
  rw [hy] at hx
  cases hev : ev f x <;> simp only [hev, reduceCtorEq] at h <;> rw [hev] at hx
  case bp id off =>
   simp only [AR.ok.injEq] at h
   obtain ⟨rfl, rfl, rfl⟩ := h
   have hx' := hx
   cases hx
   exact ⟨_, _, w, G, (by simp only [execOp, hy]; rfl), .inl rfl, hx', hI, Ext.refl _ _⟩
  case ep xs =>
   simp only [AR.ok.injEq] at h
   obtain ⟨rfl, rfl, rfl⟩ := h
   have hx' := hx
   cases hx
   exact ⟨_, _, w, G, (by simp only [execOp, hy]; rfl), .inl rfl, hx', hI, Ext.refl _ _⟩
  case fn g b c =>
   cases g <;> simp only [reduceCtorEq, AR.ok.injEq] at h
   obtain ⟨rfl, rfl, rfl⟩ := h
   have hx' := hx
   cases hx
   exact ⟨_, _, w, G, (by simp only [execOp, hy]; rfl), .inl rfl, hx', hI, Ext.refl _ _⟩
 case binOp op t x y yt =>
  have hx := ev_rep hF x
  have hy := ev_rep hF y
  cases hb : aBin op (ev f x) (ev f y) with
  | some pr =>
   obtain ⟨p', r⟩ := pr
   simp only [hb, AR.ok.injEq] at h
   obtain ⟨rfl, rfl, rfl⟩ := h
   exact Good.stepped (s := do eqGuard op t x y (a.eval x) (a.eval y); binOp op t (a.eval x) (a.eval y)) (aBin_good hx hy hI hb hp.1 hp.2)
  | none =>
   simp only [hb] at h
   split at h
   ·rename_i xs ys hex hey
    rw [hex] at hx
    rw [hey] at hy
    cases he : eqCells xs ys with
    | none => simp [he] at h
    | some c =>
     simp only [he, AR.ok.injEq] at h
     obtain ⟨rfl, rfl, rfl⟩ := h
     exact Good.stepped (s := do eqGuard .eql t x y (a.eval x) (a.eval y); binOp .eql t (a.eval x) (a.eval y)) (eqStruct_good (.inl rfl) hx hy hI he hp)
   ·rename_i xs ys hex hey
    rw [hex] at hx
    rw [hey] at hy
    cases he : eqCells xs ys with
    | none => simp [he] at h
    | some c =>
     simp only [he, AR.ok.injEq] at h
     obtain ⟨rfl, rfl, rfl⟩ := h
     exact Good.stepped (s := do eqGuard .neq t x y (a.eval x) (a.eval y); binOp .neq t (a.eval x) (a.eval y)) (eqStruct_good (.inr rfl) hx hy hI he hp)
   ·rename_i id oo ll hex
    rw [hex] at hx
    split at h
    ·rename_i hn
     simp only [AR.ok.injEq] at h
     obtain ⟨rfl, rfl, rfl⟩ := h
     exact Good.stepped (s := do eqGuard .eql t x y (a.eval x) (a.eval y); binOp .eql t (a.eval x) (a.eval y)) (bsNil_good hx (isNilS_eval hn a) hI hp)
    ·cases h
   ·exact Good.stepped (s := do eqGuard _ t x y (a.eval x) (a.eval y); binOp _ t (a.eval x) (a.eval y)) (nil_good hx hy hI h hp)
 case unOp op t x =>
  have hx := ev_rep hF x
  cases hev : ev f x with
  | v u =>
   rw [hev] at hx
   have he := hx.atomEq
   cases op <;> cases u <;> simp only [hev, reduceCtorEq, AR.ok.injEq] at h
   case neg.int k n =>
    obtain ⟨rfl, rfl, rfl⟩ := h
    exact Good.stepped (s := Op.unary .neg (a.eval x)) (Good.same (y := .int k (k.wrap (0 - n))) (by rw [he]; rfl) (.v rfl) hI)
   case not.bool b =>
    obtain ⟨rfl, rfl, rfl⟩ := h
    exact Good.stepped (s := Op.unary .not (a.eval x)) (Good.same (y := .bool !b) (by rw [he]; rfl) (.v rfl) hI)
  | _ => cases op <;> simp [hev] at h
 case convert s d x =>
  have hx := ev_rep hF x
  cases hu : P.underlying d with
  | none => simp [hu] at h
  | some td =>
   cases hev : ev f x with
   | v u =>
    rw [hev] at hx
    have he := hx.atomEq
    cases td <;> cases u <;> simp only [hu, hev, reduceCtorEq, AR.ok.injEq] at h
    rename_i k k' n
    obtain ⟨rfl, rfl, rfl⟩ := h
    obtain ⟨ts, hts⟩ := Option.isSome_iff_exists.1 hp
    refine Good.stepped (s := convert s d (a.eval x)) (Good.same (y := .int k (k.wrap n)) ?_ (.v rfl) hI)
    rw [he]
    simp [convert, run_underlying hts, run_underlying hu, Conv.intToInt]
   | sl o xs =>
    rw [hev] at hx
    cases td <;> simp only [hu, hev, reduceCtorEq] at h
    cases hb : bytesOf xs with
    | none => simp [hb] at h
    | some ns =>
     simp only [hb, AR.ok.injEq] at h
     obtain ⟨rfl, rfl, rfl⟩ := h
     obtain ⟨e, hs1, hs2⟩ := eltB_spec hp
     have hfl := bytesOf_spec hb
     refine Good.stepped (s := convert s d (a.eval x)) (Good.same (y := .string (strOf ns)) ?_ (.v rfl) hI)
     rcases sl_inv hx with ⟨⟨ao, he⟩, rfl, _⟩ | ⟨b, off, cap, sz, cs, he, a1, a2, a3, a4, a5, a6, a7, a8⟩
     ·rw [he, run_convert_bytes_string w s d e ao 0 0 hs1 hs2 hu]
      obtain rfl : ns = [] := by simpa [bytesOf] using hb.symm
      cases ao with
      | none => rfl
      | some ad => exact run_bytesToString w ad 0 0 [] (run_loadCells_list (P := P) (w := w) ad [] (fun j v h => by simp at h))
     ·rw [he, run_convert_bytes_string w s d e _ _ _ hs1 hs2 hu]
      have hcs : cs = ns.map (Value.int .u8) := by
       have hl := a3.len
       rw [hfl] at hl a3
       refine List.ext_getElem (by simpa using hl.symm) fun j h1 h2 => ?_
       have := a3.rep j (by simpa using h2) h1
       simp only [List.getElem_map] at this ⊢
       exact this.atomEq
      have hlen : cs.length = xs.length := by
       rw [hcs, List.length_map, ← List.length_map (f := fun n => PV.v (.int .u8 n)), ← hfl, flat_len PV.cells 1 xs (fun x hx => bytesOf_one hb x hx), Nat.mul_one]
      refine run_bytesToString w _ _ _ ns ?_
      rw [← hcs, ← hlen]
      exact run_loadCells_list (P := P) (w := w) _ cs (fun j v h => by
       have hj : j < cs.length := (List.getElem?_eq_some_iff.1 h).1
       rw [← h, Addr.add_lit]; exact (a4 j hj).1)
   | _ => cases td <;> simp [hu, hev] at h
 case fieldAddr t x i =>
  have hx := ev_rep hF x
  cases hfl : tflds P t with
  | none => simp [hfl] at h
  | some fl =>
   cases hev : ev f x <;> simp only [hfl, hev, reduceCtorEq] at h <;> rw [hev] at hx
   case ep xs =>
    cases hi : fl[i]? with
    | none => simp [hi] at h
    | some q =>
     obtain ⟨off, n, ag⟩ := q
     simp only [hi, AR.ok.injEq] at h
     obtain ⟨rfl, rfl, rfl⟩ := h
     obtain ⟨b, o', c, he, q1, q2, q3⟩ := ep_inv hx
     refine Good.stepped (s := Instr.fieldAt t (a.eval x) i) (Good.same (by rw [he]; exact fieldAt_good hfl hi hp.1 b o' w) ?_ hI)
     refine .ep _ b (o' + off) (fun k => c (off + k)) (fun k hk => ?_) (fun k hk => by simpa using q2 (off + k) (by simp at hk; omega)) (fun k hk => by simpa using q3 (off + k) (by simp at hk; omega))
     have := q1 (off + k) (by simp at hk; omega)
     rwa [← Nat.add_assoc] at this
   case bp id o' =>
    cases hi : fl[i]? with
    | none => simp [hi] at h
    | some q =>
     obtain ⟨off, n, ag⟩ := q
     simp only [hi, AR.ok.injEq] at h
     obtain ⟨rfl, rfl, rfl⟩ := h
     obtain ⟨y, hy⟩ : ∃ y, a.eval x = y := ⟨_, rfl⟩
     rw [hy] at hx
     cases hx with
     | bp _ _ hid hm =>
     exact Good.stepped (s := Instr.fieldAt t (a.eval x) i) (Good.same (by rw [hy]; exact fieldAt_good hfl hi hp _ _ w) (.bp _ _ hid hm) hI)
 case field t x i =>
  have hx := ev_rep hF x
  cases hfl : tflds P t with
  | none => simp [hfl] at h
  | some fl =>
   cases hev : ev f x <;> simp only [hfl, hev, reduceCtorEq] at h <;> rw [hev] at hx
   case ag xs =>
    cases hi : fl[i]? with
    | none => simp [hi] at h
    | some q =>
     obtain ⟨off, n, ag⟩ := q
     simp only [hi, AR.ok.injEq] at h
     obtain ⟨rfl, rfl, rfl⟩ := h
     exact Good.stepped (s := Instr.field t (a.eval x) i) (field_good hfl hi hI hx hp)
 case indexAddr t x i =>
  have hx := ev_rep hF x
  have hi := ev_rep hF i
  cases ht : tel P t with
  | none =>
   cases hei : ev f i with
   | v u =>
    rw [hei] at hi
    have he := hi.atomEq
    cases hev : ev f x <;> cases u <;> simp only [ht, hev, hei, reduceCtorEq] at h <;> rw [hev] at hx
    case ep.int xs k n =>
     cases hta : tarr P t with
     | none => simp [hta] at h
     | some q =>
      obtain ⟨l, e⟩ := q
      cases hd : tdat P e with
      | none => simp [hta, hd] at h
      | some d =>
       simp only [hta, hd, AR.ok.injEq] at h
       obtain ⟨rfl, rfl, rfl⟩ := h
       refine Good.stepped (s := Instr.indexAt t (a.eval x) (a.eval i)) ?_
       rw [he]
       exact indexEp_good hta hd hI hx hp.1 hp.2.1
    case bp.int id off k n =>
     cases hta : tarr P t with
     | none => simp [hta] at h
     | some q =>
      obtain ⟨l, e⟩ := q
      cases hd : tdat P e with
      | none => simp [hta, hd] at h
      | some d =>
       simp only [hta, hd, AR.ok.injEq] at h
       obtain ⟨rfl, rfl, rfl⟩ := h
       refine Good.stepped (s := Instr.indexAt t (a.eval x) (a.eval i)) ?_
       rw [he]
       exact indexBp_good hta hd hI hx hp.1 hp.2
   | _ => cases hev : ev f x <;> simp [ht, hev, hei] at h
  | some e =>
   cases hei : ev f i with
   | v u =>
    rw [hei] at hi
    have he := hi.atomEq
    cases hev : ev f x <;> cases u <;> simp only [ht, hev, hei, reduceCtorEq] at h <;> rw [hev] at hx
    case sl.int o' xs k n =>
     simp only [AR.ok.injEq] at h
     obtain ⟨rfl, rfl, rfl⟩ := h
     refine Good.stepped (s := Instr.indexAt t (a.eval x) (a.eval i)) ?_
     rw [he]
     exact index_good ht hI hx hp.1 hp.2.1 hp.2.2
    case bs.int id off l k n =>
     cases hd : tdat P e with
     | none => simp [hd] at h
     | some d =>
      simp only [hd, AR.ok.injEq] at h
      obtain ⟨rfl, rfl, rfl⟩ := h
      refine Good.stepped (s := Instr.indexAt t (a.eval x) (a.eval i)) ?_
      rw [he]
      exact indexBs_good ht hd hI hx hp.1 hp.2
   | _ => cases hev : ev f x <;> simp [ht, hev, hei] at h
 case index t x i =>
  have hx := ev_rep hF x
  have hi := ev_rep hF i
  split at h
  ·rename_i s k n hu hex hei
   rw [hex] at hx
   rw [hei] at hi
   have he := hi.atomEq
   have he' := hx.atomEq
   simp only [AR.ok.injEq] at h
   obtain ⟨rfl, rfl, rfl⟩ := h
   refine Good.stepped (s := Instr.index t (a.eval x) (a.eval i)) (Good.same (y := .int .u8 (s.data.toList.getD n.toNat 0).toNat) ?_ (.v rfl) hI)
   rw [he, he']
   exact run_index_str hu s k hp.1 hp.2 w
  ·rename_i l e xs k n hu hex hei
   rw [hex] at hx
   rw [hei] at hi
   have he := hi.atomEq
   cases hd : tdat P e with
   | none => simp [hd] at h
   | some d =>
    simp only [hd, AR.ok.injEq] at h
    obtain ⟨rfl, rfl, rfl⟩ := h
    refine Good.stepped (s := Instr.index t (a.eval x) (a.eval i)) ?_
    rw [he]
    exact indexAg_good hu hd hI hx hp.1 hp.2.1 hp.2.2
  ·cases h
 case slice t x lo hi mx =>
  have hx := ev_rep hF x
  have hlo : ∀ {l : Int}, loOf f lo = some l → 0 ≤ l → (lo.map a.eval = none ∧ l.toNat = 0) ∨ ∃ k, lo.map a.eval = some (.int k (l.toNat : Int)) := fun {l} hl h0 => by
   cases lo with
   | none => simp only [loOf, Option.some.injEq] at hl; subst hl; exact .inl ⟨rfl, rfl⟩
   | some q =>
    obtain ⟨k, hk⟩ := aInt_rep (ev_rep hF q) hl
    exact .inr ⟨k, by simp [hk, Int.toNat_of_nonneg h0]⟩
  split at h
  ·rename_i s hu hex
   rw [hex] at hx
   have he := hx.atomEq
   cases hl : loOf f lo with
   | none => simp [hl] at h
   | some l =>
    cases hh : hiOf f s.size hi with
    | none => simp [hl, hh] at h
    | some hv =>
     simp only [hl, hh, AR.ok.injEq] at h
     obtain ⟨rfl, rfl, rfl⟩ := h
     obtain ⟨p1, p2, p3⟩ := hp
     refine Good.stepped (s := Instr.sliceAt t (a.eval x) (lo.map a.eval) (hi.map a.eval) (Option.map a.eval none)) ?_
     rw [he]
     refine sliceStr_good hu hI s (hlo hl p1) ?_ (by omega) (by omega)
     cases hi with
     | none => simp only [hiOf, Option.some.injEq] at hh; subst hh; exact .inl ⟨rfl, by omega⟩
     | some q =>
      obtain ⟨k, hk⟩ := aInt_rep (ev_rep hF q) hh
      exact .inr ⟨k, by simp [hk, Int.toNat_of_nonneg (show 0 ≤ hv by omega)]⟩
  ·rename_i e o' xs hu hex
   rw [hex] at hx
   cases hl : loOf f lo with
   | none => simp [hl] at h
   | some l =>
    cases hh : hiOf f xs.length hi with
    | none => simp [hl, hh] at h
    | some hv =>
     simp only [hl, hh, AR.ok.injEq] at h
     obtain ⟨rfl, rfl, rfl⟩ := h
     obtain ⟨p1, p2, p3, d, hd, hsz⟩ := hp
     refine Good.stepped (s := Instr.sliceAt t (a.eval x) (lo.map a.eval) (hi.map a.eval) (Option.map a.eval none)) ?_
     refine sliceSl_good hu hd hI hx hsz (hlo hl p1) ?_ (by omega) (by omega) (by
      cases hi with
      | none => simp only [hiOf, Option.some.injEq] at hh; subst hh; exact .inr ⟨rfl, by omega⟩
      | some q => exact .inl rfl)
     cases hi with
     | none => simp only [hiOf, Option.some.injEq] at hh; subst hh; exact .inl ⟨rfl, by omega⟩
     | some q =>
      obtain ⟨k, hk⟩ := aInt_rep (ev_rep hF q) hh
      exact .inr ⟨k, by simp [hk, Int.toNat_of_nonneg (show 0 ≤ hv by omega)]⟩
  ·cases h
 case extract x i =>
  have hx := ev_rep hF x
  obtain ⟨y, hy⟩ : ∃ y, a.eval x = y := ⟨_, rfl⟩
  rw [hy] at hx
  cases hev : ev f x <;> simp only [hev, reduceCtorEq] at h <;> rw [hev] at hx
  rename_i xs
  simp only [AR.ok.injEq] at h
  obtain ⟨rfl, rfl, rfl⟩ := h
  cases hx with
  | tp _ cs hl hr =>
  have hlt : i < cs.length := hl ▸ hp
  refine Good.stepped (s := Instr.extract (a.eval x) i) (Good.same (y := cs[i]) (by rw [hy]; simp [Instr.extract, hlt]) ?_ hI)
  have := hr i hp hlt
  have hp' : i < xs.length := hp
  simpa [List.getD, hp'] using this
 case makeFunc g b c =>
  simp only [AR.ok.injEq] at h
  obtain ⟨rfl, rfl, rfl⟩ := h
  obtain ⟨q1, q2⟩ := reps_of hF b.toList
  obtain ⟨q3, q4⟩ := reps_of hF c.toList
  refine Good.stepped (s := Instr.makeFunc g (b.map a.eval) (c.map a.eval)) (Good.same rfl ?_ hI)
  have := Rep.fn (G := G) (w := w) g _ _ _ _ q1 q3 q2 q4
  rw [show (b.map a.eval) = (b.toList.map a.eval).toArray by apply Array.ext'; simp, show (c.map a.eval) = (c.toList.map a.eval).toArray by apply Array.ext'; simp]
  exact this
 case makeInterface t x =>
  have hx := ev_rep hF x
  cases hu : P.underlying t with
  | none => simp [hu] at h
  | some td =>
   cases td <;> simp only [hu, reduceCtorEq, AR.ok.injEq] at h
   all_goals
    obtain ⟨rfl, rfl, rfl⟩ := h
    refine Good.stepped (s := Instr.makeInterface t (a.eval x)) (Good.same (y := .iface t (a.eval x)) ?_ (.ifc t _ _ hx) hI)
    simp [Instr.makeInterface, run_underlying hu]
 case typeAssert x xt t ok =>
  have hx := ev_rep hF x
  cases hu : P.underlying t with
  | none => simp [hu] at h
  | some td =>
   cases hd : tdat P t with
   | none => cases td <;> simp [hu, hd] at h
   | some d =>
    obtain ⟨ti, td', k1, k2, k3, _⟩ := info_of hd
    have hz : (zeroValue t).run P w = .ok d.zero w := run_zeroValue k1 k3 w
    have hni : ∀ ms, td ≠ .interface ms := fun ms he => by subst he; simp [hu, hd] at h
    obtain ⟨y0, hy0⟩ : ∃ y0, a.eval x = y0 := ⟨_, rfl⟩
    rw [hy0] at hx
    have hgo : Good G w ((Instr.typeAssert y0 xt t ok).run P w) v m' := by
     cases hev : ev f x with
     | ifc u y =>
      rw [hev] at hx
      cases hx with
      | ifc _ _ y' hyr =>
      have h' : (if u = t then AR.ok True (if ok then PV.tp [y, .v (.bool true)] else y) m else if ok then AR.ok True (.tp [ofV d.zero, .v (.bool false)]) m else .bad) = AR.ok p v m' := by
       cases td <;> first | exact absurd rfl (hni _) | simpa only [hu, hd, hev] using h
      by_cases hut : u = t
      ·rw [if_pos hut] at h'
       simp only [AR.ok.injEq] at h'
       obtain ⟨_, rfl, rfl⟩ := h'
       subst hut
       cases ok with
       | true =>
        refine Good.same (y := .tuple #[y', .bool true]) ?_ ?_ hI
        ·cases td <;> first | exact absurd rfl (hni _) | simp [Instr.typeAssert, run_underlying hu]
        ·exact rep_pair hyr (.v rfl)
       | false =>
        refine Good.same (y := y') ?_ hyr hI
        cases td <;> first | exact absurd rfl (hni _) | simp [Instr.typeAssert, run_underlying hu]
      ·rw [if_neg hut] at h'
       cases ok with
       | false => simp at h'
       | true =>
        simp only [if_true, AR.ok.injEq] at h'
        obtain ⟨_, rfl, rfl⟩ := h'
        refine Good.same (y := .tuple #[d.zero, .bool false]) ?_ ?_ hI
        ·cases td <;> first | exact absurd rfl (hni _) | simp [Instr.typeAssert, run_underlying hu, hut, hz]
        ·exact rep_pair (ofV_rep G w d.zero) (.v rfl)
     | v u =>
      rw [hev] at hx
      have hat := hx.atomEq
      subst hat
      cases y0 with
      | nilIface =>
       have h' : (if ok then AR.ok True (.tp [ofV d.zero, .v (.bool false)]) m else .bad) = AR.ok p v m' := by
        cases td <;> first | exact absurd rfl (hni _) | simpa only [hu, hd, hev] using h
       cases ok with
       | false => simp at h'
       | true =>
        simp only [if_true, AR.ok.injEq] at h'
        obtain ⟨_, rfl, rfl⟩ := h'
        refine Good.same (y := .tuple #[d.zero, .bool false]) ?_ ?_ hI
        ·cases td <;> first | exact absurd rfl (hni _) | simp [Instr.typeAssert, run_underlying hu, hz]
        ·exact rep_pair (ofV_rep G w d.zero) (.v rfl)
      | _ => exfalso; cases td <;> simp [hu, hd, hev] at h
     | _ => exfalso; cases td <;> simp [hu, hd, hev] at h
    rw [← hy0] at hgo
    exact Good.stepped (s := Instr.typeAssert (a.eval x) xt t ok) hgo
 case panic x =>
  split at h <;> cases h
 case call c =>
  obtain ⟨callee, args, ats⟩ := c
  simp only at h
  cases callee with
  | builtin b =>
   simp only at h
   obtain ⟨q1, q2⟩ := reps_of hF args.toList
   have := builtin_sound hI b ats ty (args.map fun | .const _ => true | _ => false) q1 q2 h hp
   rw [show (args.toList.map a.eval).toArray = args.map a.eval by apply Array.ext'; simp] at this
   exact this
  | value g =>
   simp only at h
   cases hev : ev f g <;> simp only [hev, reduceCtorEq] at h
   rename_i fn b c
   cases fn <;> simp only [reduceCtorEq] at h
  | invoke g n => simp only at h; (repeat' split at h) <;> simp only [reduceCtorEq] at h

theorem run_aMeth {t : TypeId} {name : String} {g : FuncId} (h : aMeth P t name = some g) {k : Nat} (hk : 0 < k) (v : Value) (w : World) : (Go.method k t v name).run P w = .ok (g, v) w := by
 obtain ⟨k, rfl⟩ : ∃ k', k = k' + 1 := ⟨k - 1, by omega⟩
 unfold aMeth at h
 split at h
 ·rename_i i td hi hu
  split at h
  ·rename_i mm hm
   split at h
   ·rename_i hp
    have hp' : mm.path.toList = [] := by simpa using hp
    split at h
    ·rename_i g' ptr hf
     simp only [Go.method, Sem.run_bind, typeInfo, run_program, Result.andThen_ok, hi, Sem.run_pure, hm, hp', follow, hf, receiverAt, run_underlying hu]
     split at h <;> cases h <;> simp_all [Place.get]
    ·cases h
   ·cases h
  ·cases h
 ·cases h
theorem call_sound0 (hF : FR G w f a.tmps) {mu : Bool} {g : FuncId} {args : List PV} (h : aStep0 P mu o.op f m = .call g args) :
    ∃ vs : List Value, args.length = vs.length ∧ (∀ j (h1 : j < args.length) (h2 : j < vs.length), Rep G w args[j] vs[j]) ∧ (execOp a.eval o).run P w = (callFunc g vs.toArray).run P w := by
 obtain ⟨dst, op, ty, pos, after, guard⟩ := o
 simp only at h
 cases op <;> simp only [aStep0, reduceCtorEq] at h
 case call c =>
  obtain ⟨callee, as, ats⟩ := c
  simp only at h
  cases callee with
  | builtin b =>
   simp only at h
   unfold aBuiltin at h
   repeat' split at h
   all_goals first | (cases h; done) | (trace_state; simp only [reduceCtorEq] at h)
  | value x =>
   simp only at h
   have hx := ev_rep hF x
   obtain ⟨y, hy⟩ : ∃ y, a.eval x = y := ⟨_, rfl⟩
   rw [hy] at hx
   cases hev : ev f x <;> simp only [hev, reduceCtorEq] at h <;> rw [hev] at hx
   rename_i fn b c
   cases fn <;> simp only [reduceCtorEq, AR.call.injEq] at h
   obtain ⟨rfl, rfl⟩ := h
   obtain ⟨q1, q2⟩ := reps_of hF as.toList
   cases hx with
   | fn _ _ _ b' c' hb hc h1 h2 =>
   refine ⟨b' ++ as.toList.map a.eval ++ c', by simp [hb, hc], fun j k1 k2 => ?_, ?_⟩
   ·simp only [List.getElem_append]
    simp only [List.length_append, List.length_map] at k1 k2 ⊢
    by_cases e1 : j < b.length + as.toList.length
    ·by_cases e2 : j < b.length
     ·have e2' : j < b'.length := hb ▸ e2
      simp only [e2, e2', e1, hb ▸ e1, dite_true]
      exact h1 j e2 e2'
     ·have e2' : ¬ j < b'.length := hb ▸ e2
      have e1' : j < b'.length + as.toList.length := hb ▸ e1
      simp only [e2, e2', e1, e1', dite_true, dite_false]
      have := q2 (j - b.length) (by simp at e1 ⊢; omega) (by simp at e1 ⊢; omega)
      simpa [hb] using this
    ·have e1' : ¬ j < b'.length + as.toList.length := hb ▸ e1
     simp only [e1, e1', dite_false]
     have := h2 (j - (b.length + as.toList.length)) (by omega) (by omega)
     simpa [hb] using this
   ·simp only [execOp, resolve, hy, Deferred.ofValue, Sem.run_bind, Sem.run_pure, Result.andThen_ok, invoke]
    congr 2
    apply Array.ext'
    simp
  | invoke r nm =>
   simp only at h
   have hx := ev_rep hF r
   obtain ⟨y, hy⟩ : ∃ y, a.eval r = y := ⟨_, rfl⟩
   rw [hy] at hx
   cases hev : ev f r <;> simp only [hev, reduceCtorEq] at h <;> rw [hev] at hx
   rename_i t x
   cases hm : aMeth P t nm with
   | none => simp [hm] at h
   | some g' =>
    simp only [hm, AR.call.injEq] at h
    obtain ⟨rfl, rfl⟩ := h
    obtain ⟨q1, q2⟩ := reps_of hF as.toList
    cases hx with
    | ifc _ _ u hu =>
    refine ⟨u :: as.toList.map a.eval, by simp, fun j k1 k2 => ?_, ?_⟩
    ·cases j with
     | zero => exact hu
     | succ j =>
      simp only [List.getElem_cons_succ]
      exact q2 j (by simpa using k1) (by simpa using k2)
    ·have hmr : ∀ w', (Go.method (P.types.size + Made.depth) t u nm).run P w' = .ok (g', u) w' := fun w' => run_aMeth hm (by simp [Made.depth]) u w'
     have harr : (#[a.eval r] ++ as.map a.eval).extract 1 (#[a.eval r] ++ as.map a.eval).size = as.map a.eval := by
      apply Array.ext'
      simp [List.take_of_length_le, List.length_map]
     simp only [execOp, resolve, Sem.run_bind, Sem.run_pure, Result.andThen_ok, invoke]
     rw [harr, hy]
     simp only [Array.getElem?_append_left, List.size_toArray, List.length_singleton, Nat.zero_lt_one, callMethod]
     simp [hmr, Sem.run_bind, run_program]
     congr 2
     apply Array.ext'
     simp [List.take_of_length_le]
 all_goals (exfalso; repeat' split at h)
 all_goals (try (unfold aNil at h; repeat' split at h))
 all_goals simp only [reduceCtorEq] at h
theorem alt_sound0 (hI : Inv G m w) (hF : FR G w f a.tmps) {mu : Bool} {p : Prop} {S : PV → M → Prop} (h : aStep0 P mu o.op f m = .alt p S) (hp : p) : ∃ v m', S v m' ∧ Stepped P G w ((execOp a.eval o).run P w) v m' := by
 obtain ⟨dst, op, ty, pos, after, guard⟩ := o
 simp only at h
 cases op <;> simp only [aStep0, reduceCtorEq] at h
 case call c =>
  exfalso
  unfold aBuiltin at h
  repeat' split at h
  all_goals first | (cases h; done) | simp only [reduceCtorEq] at h
 all_goals (exfalso; repeat' split at h)
 all_goals (try (unfold aNil at h; repeat' split at h))
 all_goals simp only [reduceCtorEq] at h
theorem pan_sound0 (hF : FR G w f a.tmps) {mu : Bool} {v : PV} (h : aStep0 P mu o.op f m = .pan v) : ∃ y, Rep G w v y ∧ (execOp a.eval o).run P w = .halt (.panic y) w := by
 obtain ⟨dst, op, ty, pos, after, guard⟩ := o
 simp only at h
 cases op <;> simp only [aStep0, reduceCtorEq] at h
 case panic x =>
  have hx := ev_rep hF x
  split at h
  ·rename_i t y hev
   cases h
   rw [hev] at hx
   obtain ⟨u, hu⟩ : ∃ u, a.eval x = u := ⟨_, rfl⟩
   rw [hu] at hx
   refine ⟨u, hx, ?_⟩
   cases hx
   simp only [execOp, hu, Sem.run_bind]
   rfl
  ·cases h
 case call c =>
  exfalso
  unfold aBuiltin at h
  repeat' split at h
  all_goals first | (cases h; done) | simp only [reduceCtorEq] at h
 all_goals (exfalso; repeat' split at h)
 all_goals (try (unfold aNil at h; repeat' split at h))
 all_goals simp only [reduceCtorEq] at h
end
end Go.Proofs.YthhhnfjcaicjnaaGreatDoor
