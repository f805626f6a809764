/-
  An operation on values without addresses does what the model's does.
-/
import Derived.Test.YtibhhoknipdlpaaAbS6
import Derived.Laws.BytesString
set_option linter.unusedVariables false
set_option linter.unusedSimpArgs false
namespace Go.Proofs.Ytibhhoknipdlpaa
open Go Go.RowKit

theorem eltB_spec {P : Program} {s : TypeId} (h : eltB P s = some (.int .u8)) : ∃ e, P.underlying s = some (.slice e) ∧ P.underlying e = some (.int .u8) := by
  unfold eltB tel at h
  cases hq : P.underlying s with
  | none => simp [hq] at h
  | some q => cases q <;> simp [hq] at h; exact ⟨_, rfl, h⟩
theorem bytesOf_spec : ∀ {xs : List PV} {ns : List Int}, bytesOf xs = some ns → xs.flatMap PV.cells = ns.map (fun n => PV.v (.int .u8 n))
  | [], ns, h => by simp [bytesOf] at h; subst h; rfl
  | x :: l, ns, h => by
    unfold bytesOf at h
    split at h
    · rename_i hq; simp at hq
    · rename_i n l' hq
      cases hq
      cases hl : bytesOf l with
      | none => simp [hl] at h
      | some r => simp [hl] at h; subst h; simp [List.flatMap_cons, bytesOf_spec hl, PV.cells]
    · simp at h
theorem bytesOf_one : ∀ {xs : List PV} {ns : List Int}, bytesOf xs = some ns → ∀ x ∈ xs, x.cells.length = 1
  | [], ns, h => fun x hx => by simp at hx
  | x :: l, ns, h => by
    unfold bytesOf at h
    split at h
    · rename_i hq; simp at hq
    · rename_i n l' hq
      cases hq
      cases hl : bytesOf l with
      | none => simp [hl] at h
      | some r =>
        intro y hy
        rcases List.mem_cons.1 hy with rfl | hy
        · rfl
        · exact bytesOf_one hl y hy
    · simp at h

section
variable {P : Program} {G : Ghost} {w : World} {m : M} {f : F} {a : Act} {o : Oper}

theorem reps_of (hF : FR G w f a.tmps) (l : List Operand) : (l.map (ev f)).length = (l.map a.eval).length ∧ ∀ j (h1 : j < (l.map (ev f)).length) (h2 : j < (l.map a.eval).length), Rep G w (l.map (ev f))[j] (l.map a.eval)[j] :=
  ⟨by simp, fun j h1 h2 => by simpa using ev_rep hF _⟩

def evParts (g : Operand → Value) (ps : Array (Nat × Operand)) : List (Nat × Value) := ps.toList.map fun p => (p.1, g p.2)
theorem evParts_eq (g : Operand → Value) (ps : Array (Nat × Operand)) : (ps.map fun (i, x) => (i, g x)) = (evParts g ps).toArray := by
  apply Array.ext'
  simp [evParts]
theorem parts_of (hF : FR G w f a.tmps) (ps : Array (Nat × Operand)) : (ps.toList.map fun p => (p.1, ev f p.2)).length = (evParts a.eval ps).length ∧
    ∀ j (h1 : j < (ps.toList.map fun p => (p.1, ev f p.2)).length) (h2 : j < (evParts a.eval ps).length), ((ps.toList.map fun p => (p.1, ev f p.2))[j]).1 = ((evParts a.eval ps)[j]).1 ∧ Rep G w ((ps.toList.map fun p => (p.1, ev f p.2))[j]).2 ((evParts a.eval ps)[j]).2 :=
  ⟨by simp [evParts], fun j h1 h2 => by simpa [evParts] using ev_rep hF _⟩

theorem builtin_sound (hI : Inv G m w) (b : Builtin) (ts : Array TypeId) (ty : TypeId) (cs : Array Bool) {args : List PV} {vs : List Value} (hl : args.length = vs.length) (hr : ∀ j (h1 : j < args.length) (h2 : j < vs.length), Rep G w args[j] vs[j])
    {p : Prop} {v : PV} {m' : M} (h : aBuiltin P b ts args m = .ok p v m') (hp : p) : Stepped P G w ((builtin b ts ty cs vs.toArray).run P w) v m' := by
  unfold aBuiltin at h
  split at h
  · -- len of a string
    rename_i s
    match vs, hl, hr with
    | [y], _, hr =>
      have h0 := hr 0 (by simp) (by simp)
      simp only [List.getElem_cons_zero] at h0
      obtain rfl := h0.atomEq
      simp only [AR.ok.injEq] at h
      obtain ⟨rfl, rfl, rfl⟩ := h
      obtain ⟨ts⟩ := ts
      cases ts with
      | nil => simp at hp
      | cons t ts =>
        simp at hp
        obtain ⟨hu, rfl⟩ := hp
        refine Good.stepped (s := Builtin.len_ #[t] ty #[.string s]) (Good.same (y := .int .i64 s.size) ?_ (.v rfl) hI)
        simp [Builtin.len_, run_underlying hu, goInt]
  · rename_i o' xs
    match vs, hl, hr with
    | [y], _, hr =>
      have h0 := hr 0 (by simp) (by simp)
      simp only [List.getElem_cons_zero] at h0
      obtain ⟨ts⟩ := ts
      match ts with
      | [t] =>
        cases ht : tel P t with
        | none => simp [ht] at h
        | some e =>
          simp only [List.map_cons, List.map_nil, ht, AR.ok.injEq] at h
          obtain ⟨rfl, rfl, rfl⟩ := h
          have hy : ∃ ad cap, y = .slice ad xs.length cap := by
            rcases sl_inv h0 with ⟨⟨ao, rfl⟩, rfl, _⟩ | ⟨b, off, cap, sz, cs, rfl, _⟩
            · exact ⟨_, _, rfl⟩
            · exact ⟨_, _, rfl⟩
          obtain ⟨ad, cap, rfl⟩ := hy
          refine Good.stepped (s := Builtin.len_ #[t] ty #[.slice ad xs.length cap]) (Good.same (y := .int .i64 xs.length) ?_ (.v rfl) hI)
          simp [Builtin.len_, run_underlying (under_of ht), goInt]
      | [] => simp at h
      | _ :: _ :: _ => simp at h
  · rename_i id off n
    match vs, hl, hr with
    | [y], _, hr =>
      have h0 := hr 0 (by simp) (by simp)
      simp only [List.getElem_cons_zero] at h0
      obtain ⟨ts⟩ := ts
      match ts with
      | [t] =>
        cases ht : tel P t with
        | none => simp [ht] at h
        | some e =>
          simp only [List.map_cons, List.map_nil, ht, AR.ok.injEq] at h
          obtain ⟨rfl, rfl, rfl⟩ := h
          cases h0 with
          | bs _ _ _ cap hid hcap hmax =>
          refine Good.stepped (s := Builtin.len_ #[t] ty #[.slice _ n cap]) (Good.same (y := .int .i64 n) ?_ (.v rfl) hI)
          simp [Builtin.len_, run_underlying (under_of ht), goInt]
      | [] => simp at h
      | _ :: _ :: _ => simp at h
  · rename_i k x k' y'
    match vs, hl, hr with
    | [u, u'], _, hr =>
      have h0 := (hr 0 (by simp) (by simp)).atomEq
      have h1 := (hr 1 (by simp) (by simp)).atomEq
      simp only [List.getElem_cons_zero, List.getElem_cons_succ] at h0 h1
      subst h0 h1
      simp only [AR.ok.injEq] at h
      obtain ⟨rfl, rfl, rfl⟩ := h
      exact Good.stepped (s := Builtin.max_ ts ty #[.int k x, .int k' y']) (Good.same (y := .int k _) (by simp [Builtin.max_, Builtin.max2]) (.v rfl) hI)
  · rename_i k x k' y'
    match vs, hl, hr with
    | [u, u'], _, hr =>
      have h0 := (hr 0 (by simp) (by simp)).atomEq
      have h1 := (hr 1 (by simp) (by simp)).atomEq
      simp only [List.getElem_cons_zero, List.getElem_cons_succ] at h0 h1
      subst h0 h1
      simp only [AR.ok.injEq] at h
      obtain ⟨rfl, rfl, rfl⟩ := h
      exact Good.stepped (s := Builtin.min_ ts ty #[.int k x, .int k' y']) (Good.same (y := .int k _) (by simp [Builtin.min_, Builtin.min2]) (.v rfl) hI)
  · rename_i o' xs y
    match vs, hl, hr with
    | [u, u'], _, hr =>
      have h0 := hr 0 (by simp) (by simp)
      have h1 := hr 1 (by simp) (by simp)
      simp only [List.getElem_cons_zero, List.getElem_cons_succ] at h0 h1
      obtain ⟨ts⟩ := ts
      simp only at h
      match ts, h with
      | [t, t'], h =>
        cases he : elems y with
        | none => simp [he] at h
        | some ys =>
          cases ht : tel P t with
          | none => simp [he, ht] at h
          | some e =>
            cases hd : tdat P e with
            | none => simp [he, ht, hd] at h
            | some d =>
              cases ht' : P.underlying t' with
              | none => simp [he, ht, hd, ht'] at h
              | some td =>
                simp only [he, ht, hd, ht'] at h
                by_cases hk : okSrc y td d.sz = true
                · rw [if_pos hk] at h
                  simp only [AR.ok.injEq] at h
                  obtain ⟨rfl, rfl, rfl⟩ := h
                  obtain ⟨q1, q2, q3, q4, q5⟩ := hp
                  exact Good.stepped (s := Builtin.append_ #[t, t'] ty #[u, u']) (append_good ht hd ht' hI h0 h1 he hk q1 q2 q3 q4 q5)
                · rw [if_neg hk] at h; cases h
      | [], h => simp at h
      | [_], h => simp at h
      | _ :: _ :: _ :: _, h => simp at h
  · cases h

theorem range_zip (n : Nat) (ps : Array (Nat × Operand)) (h : ps.toList.map (·.1) = List.range n) (g : Operand → Value) : (evParts g ps).toArray.toList = (List.range n).zip (ps.toList.map fun p => g p.2) ∧ (ps.toList.map fun p => g p.2).length = n := by
  refine ⟨?_, ?_⟩
  · rw [← h, List.zip_map']
    rfl
  · have := congrArg List.length h
    simpa using this

theorem step_sound (hI : Inv G m w) (hF : FR G w f a.tmps) {mu : Bool} {p : Prop} {v : PV} {m' : M} (h : aStep P mu o.op f m = .ok p v m') (hp : p) : Stepped P G w ((execOp a.eval o).run P w) v m' := by
  obtain ⟨dst, op, ty, pos, after, guard⟩ := o
  simp only at h
  cases op <;> simp only [aStep, reduceCtorEq] at h
  case move x =>
    simp only [AR.ok.injEq] at h
    obtain ⟨rfl, rfl, rfl⟩ := h
    exact ⟨_, _, w, G, rfl, .inl rfl, ev_rep hF x, hI, Ext.refl _ _⟩
  case assign x =>
    simp only [AR.ok.injEq] at h
    obtain ⟨rfl, rfl, rfl⟩ := h
    exact ⟨_, _, w, G, rfl, .inl rfl, ev_rep hF x, hI, Ext.refl _ _⟩
  case pick c x y =>
    split at h
    · rename_i t ht
      simp only [AR.ok.injEq] at h
      obtain ⟨rfl, rfl, rfl⟩ := h
      have hc := ev_rep hF c
      rw [ht] at hc
      have hc := hc.atomEq
      refine ⟨.value (if t then a.eval x else a.eval y), _, w, G, ?_, .inl rfl, ?_, hI, Ext.refl _ _⟩
      · simp [execOp, hc, asBool]
      · cases t
        · exact ev_rep hF y
        · exact ev_rep hF x
    · cases h
  case box e x =>
    have hx := ev_rep hF x
    split at h
    · simp only [AR.ok.injEq] at h
      obtain ⟨rfl, rfl, rfl⟩ := h
      have hrl := hx.rl hp
      obtain ⟨G', h1, h2, h3⟩ := new_bp (e := e) hI hrl (Pushed.alloc w (.cells (a.eval x).cells.toList.toArray e))
      simp only [Array.toArray_toList] at h1 h2 h3
      exact Good.stepped (s := Instr.box e (a.eval x)) ⟨_, _, G', rfl, h1, h2, h3⟩
    · simp only [AR.ok.injEq] at h
      obtain ⟨rfl, rfl, rfl⟩ := h
      obtain ⟨G', h1, h2, h3⟩ := new_ep (e := e) hI hx.settle hp (Pushed.alloc w (.cells (a.eval x).cells e))
      exact Good.stepped (s := Instr.box e (a.eval x)) ⟨_, _, G', rfl, h1, h2, h3⟩
  case alloc e =>
    cases hd : tdat P e with
    | none => simp [hd] at h
    | some d =>
      simp only [hd] at h
      obtain ⟨ti, td, k1, k2, k3, _⟩ := info_of hd
      have hx := ofV_rep G w d.zero
      have hrun : (Instr.alloc e true (.tuple #[])).run P w = .ok (.pointer (some ⟨w.heap.size, 0, none⟩)) (w.alloc (.cells d.zero.cells e)) := by
        simp only [Instr.alloc, Sem.run_bind, run_zeroValue k1 k3, Result.andThen_ok]
        rfl
      split at h
      · simp only [AR.ok.injEq] at h
        obtain ⟨rfl, rfl, rfl⟩ := h
        have hrl := hx.rl hp
        obtain ⟨G', h1, h2, h3⟩ := new_bp (e := e) hI hrl (Pushed.alloc w (.cells d.zero.cells.toList.toArray e))
        simp only [Array.toArray_toList] at h1 h2 h3
        exact Good.stepped (s := Instr.alloc e true (.tuple #[])) ⟨_, _, G', hrun, h1, h2, h3⟩
      · simp only [AR.ok.injEq] at h
        obtain ⟨rfl, rfl, rfl⟩ := h
        obtain ⟨G', h1, h2, h3⟩ := new_ep (e := e) hI hx.settle hp (Pushed.alloc w (.cells d.zero.cells e))
        exact Good.stepped (s := Instr.alloc e true (.tuple #[])) ⟨_, _, G', hrun, h1, h2, h3⟩
  case build t ps =>
    cases hfl : tflds P t with
    | none => simp [hfl] at h
    | some fl =>
      cases hd : tdat P t with
      | none => simp [hfl, hd] at h
      | some d =>
        simp only [hfl, hd, AR.ok.injEq] at h
        obtain ⟨rfl, rfl, rfl⟩ := h
        obtain ⟨q1, q2⟩ := parts_of hF ps
        have := build_good hfl hd hI _ _ q1 q2 hp.1 hp.2
        have := Good.stepped (s := Instr.build t (evParts a.eval ps).toArray) this
        rw [← evParts_eq] at this
        exact this
  case buildSlice t n ps =>
    cases ht : tel P t with
    | none => simp [ht] at h
    | some e =>
      cases hd : tdat P e with
      | none => simp [ht, hd] at h
      | some d =>
        simp only [ht, hd] at h
        split at h
        · simp only [AR.ok.injEq] at h
          obtain ⟨rfl, rfl, rfl⟩ := h
          obtain ⟨p1, ⟨p2, p3⟩, p4⟩ := hp
          obtain ⟨z1, z2⟩ := range_zip n ps p1 a.eval
          have hys : ∀ j (h1 : j < (ps.toList.map fun p => ev f p.2).length) (h2 : j < (ps.toList.map fun p => a.eval p.2).length), Rep G w (ps.toList.map fun p => ev f p.2)[j] (ps.toList.map fun p => a.eval p.2)[j] := fun j h1 h2 => by simpa using ev_rep hF _
          have hrl : RL G w ((ps.toList.map fun p => ev f p.2).flatMap PV.cells) ((ps.toList.map fun p => a.eval p.2).flatMap fun v => v.cells.toList) := RL.flat (by simp) (fun j h1 h2 => (hys j h1 h2).rl (p4 _ (List.getElem_mem _)).2)
          have hvs : ∀ u ∈ ps.toList.map (fun p => a.eval p.2), u.cells.size = d.sz := fun u hu => by
            obtain ⟨j, hj, rfl⟩ := List.mem_iff_getElem.1 hu
            have hj' : j < (ps.toList.map fun p => ev f p.2).length := by simpa using hj
            have q := (hys j hj' hj).rl (p4 _ (List.getElem_mem hj')).2
            have q1 := q.len
            rw [(p4 _ (List.getElem_mem hj')).1] at q1
            simpa using q1.symm
          have hrun := buildSlice_run ht hd n _ _ z1 z2 p3 hvs w
          obtain ⟨G', h1, h2, h3⟩ := new_bs (e := e) n (by unfold maxLen; omega) hI hrl (Pushed.alloc w _)
          have := Good.stepped (s := Instr.buildSlice t n (evParts a.eval ps).toArray) ⟨_, _, G', hrun, h1, h2, h3⟩
          rw [← evParts_eq] at this
          exact this
        · simp only [AR.ok.injEq] at h
          obtain ⟨rfl, rfl, rfl⟩ := h
          obtain ⟨p1, ⟨p2, p3⟩, p4⟩ := hp
          obtain ⟨z1, z2⟩ := range_zip n ps p1 a.eval
          have := Good.stepped (s := Instr.buildSlice t n (evParts a.eval ps).toArray) (buildSlice_good ht hd hI n _ _ _ z1 z2 (by simp) (fun j h1 h2 => by simpa using ev_rep hF _) p3 p2 p4)
          rw [← evParts_eq] at this
          exact this
  case load t x =>
    have hx := ev_rep hF x
    cases hd : tdat P t with
    | none => simp [hd] at h
    | some d =>
      cases hev : ev f x <;> simp only [hd, hev, reduceCtorEq] at h <;> rw [hev] at hx
      case ep xs =>
        simp only [AR.ok.injEq] at h
        obtain ⟨rfl, rfl, rfl⟩ := h
        exact Good.stepped (s := Instr.loadAt t (a.eval x)) (load_ep hd hI hx hp)
      case bp id off =>
        cases hg : m.get id with
        | none => simp [hg] at h
        | some c =>
          simp only [hg, AR.ok.injEq] at h
          obtain ⟨rfl, rfl, rfl⟩ := h
          exact Good.stepped (s := Instr.loadAt t (a.eval x)) (load_bp hd hI hg hx hp)
  case store t x y =>
    have hx := ev_rep hF x
    cases hd : tdat P t with
    | none => simp [hd] at h
    | some d =>
      cases hev : ev f x <;> simp only [hd, hev, reduceCtorEq] at h <;> rw [hev] at hx
      case bp id off =>
        cases hg : m.get id with
        | none => simp [hg] at h
        | some c =>
          simp only [hg, AR.ok.injEq] at h
          obtain ⟨rfl, rfl, rfl⟩ := h
          obtain ⟨w', h1, h2, h3⟩ := store_good hd hI hg hx (ev_rep hF y) hp.1 hp.2.1 hp.2.2
          refine ⟨.skip, undef, w', G, ?_, .inr ⟨rfl, rfl⟩, .tp [] [] rfl (fun j h => by simp at h), h2, h3⟩
          show (do Instr.storeAt t (a.eval x) (a.eval y); pure .skip : Sem Next).run P w = _
          rw [Sem.run_bind, h1]
          rfl
  case nilCheck x =>
    have hx := ev_rep hF x
    obtain ⟨y, hy⟩ : ∃ y, a.eval x = y := ⟨_, rfl⟩
    rw [hy] at hx
    cases hev : ev f x <;> simp only [hev, reduceCtorEq] at h <;> rw [hev] at hx
    case bp id off =>
      simp only [AR.ok.injEq] at h
      obtain ⟨rfl, rfl, rfl⟩ := h
      have hx' := hx
      cases hx
      exact ⟨_, _, w, G, (by simp only [execOp, hy]; rfl), .inl rfl, hx', hI, Ext.refl _ _⟩
    case ep xs =>
      simp only [AR.ok.injEq] at h
      obtain ⟨rfl, rfl, rfl⟩ := h
      have hx' := hx
      cases hx
      exact ⟨_, _, w, G, (by simp only [execOp, hy]; rfl), .inl rfl, hx', hI, Ext.refl _ _⟩
    case fn g b c =>
      cases g <;> simp only [reduceCtorEq, AR.ok.injEq] at h
      obtain ⟨rfl, rfl, rfl⟩ := h
      have hx' := hx
      cases hx
      exact ⟨_, _, w, G, (by simp only [execOp, hy]; rfl), .inl rfl, hx', hI, Ext.refl _ _⟩
  case binOp op t x y yt =>
    have hx := ev_rep hF x
    have hy := ev_rep hF y
    cases hb : aBin op (ev f x) (ev f y) with
    | some pr =>
      obtain ⟨p', r⟩ := pr
      simp only [hb, AR.ok.injEq] at h
      obtain ⟨rfl, rfl, rfl⟩ := h
      exact Good.stepped (s := do eqGuard op t x y (a.eval x) (a.eval y); binOp op t (a.eval x) (a.eval y)) (aBin_good hx hy hI hb hp.1 hp.2)
    | none =>
      simp only [hb] at h
      cases hex : ev f x <;> cases hey : ev f y <;> simp only [hex, hey, reduceCtorEq] at h <;> try (cases op <;> simp only [reduceCtorEq] at h; done)
      rw [hex] at hx
      rw [hey] at hy
      cases op <;> simp only [reduceCtorEq] at h
      case eql =>
        rename_i xs ys
        cases he : eqCells xs ys with
        | none => simp [he] at h
        | some c =>
          simp only [he, AR.ok.injEq] at h
          obtain ⟨rfl, rfl, rfl⟩ := h
          exact Good.stepped (s := do eqGuard .eql t x y (a.eval x) (a.eval y); binOp .eql t (a.eval x) (a.eval y)) (eqStruct_good (.inl rfl) hx hy hI he hp)
      case neq =>
        rename_i xs ys
        cases he : eqCells xs ys with
        | none => simp [he] at h
        | some c =>
          simp only [he, AR.ok.injEq] at h
          obtain ⟨rfl, rfl, rfl⟩ := h
          exact Good.stepped (s := do eqGuard .neq t x y (a.eval x) (a.eval y); binOp .neq t (a.eval x) (a.eval y)) (eqStruct_good (.inr rfl) hx hy hI he hp)
  case unOp op t x =>
    have hx := ev_rep hF x
    cases hev : ev f x with
    | v u =>
      rw [hev] at hx
      have he := hx.atomEq
      cases op <;> cases u <;> simp only [hev, reduceCtorEq, AR.ok.injEq] at h
      case neg.int k n =>
        obtain ⟨rfl, rfl, rfl⟩ := h
        exact Good.stepped (s := Op.unary .neg (a.eval x)) (Good.same (y := .int k (k.wrap (0 - n))) (by rw [he]; rfl) (.v rfl) hI)
      case not.bool b =>
        obtain ⟨rfl, rfl, rfl⟩ := h
        exact Good.stepped (s := Op.unary .not (a.eval x)) (Good.same (y := .bool !b) (by rw [he]; rfl) (.v rfl) hI)
    | _ => cases op <;> simp [hev] at h
  case convert s d x =>
    have hx := ev_rep hF x
    cases hu : P.underlying d with
    | none => simp [hu] at h
    | some td =>
      cases hev : ev f x with
      | v u =>
        rw [hev] at hx
        have he := hx.atomEq
        cases td <;> cases u <;> simp only [hu, hev, reduceCtorEq, AR.ok.injEq] at h
        rename_i k k' n
        obtain ⟨rfl, rfl, rfl⟩ := h
        obtain ⟨ts, hts⟩ := Option.isSome_iff_exists.1 hp
        refine Good.stepped (s := convert s d (a.eval x)) (Good.same (y := .int k (k.wrap n)) ?_ (.v rfl) hI)
        rw [he]
        simp [convert, run_underlying hts, run_underlying hu, Conv.intToInt]
      | sl o xs =>
        rw [hev] at hx
        cases td <;> simp only [hu, hev, reduceCtorEq] at h
        cases hb : bytesOf xs with
        | none => simp [hb] at h
        | some ns =>
          simp only [hb, AR.ok.injEq] at h
          obtain ⟨rfl, rfl, rfl⟩ := h
          obtain ⟨e, hs1, hs2⟩ := eltB_spec hp
          have hfl := bytesOf_spec hb
          refine Good.stepped (s := convert s d (a.eval x)) (Good.same (y := .string (strOf ns)) ?_ (.v rfl) hI)
          rcases sl_inv hx with ⟨⟨ao, he⟩, rfl, _⟩ | ⟨b, off, cap, sz, cs, he, a1, a2, a3, a4, a5, a6, a7, a8⟩
          · rw [he, run_convert_bytes_string w s d e ao 0 0 hs1 hs2 hu]
            obtain rfl : ns = [] := by simpa [bytesOf] using hb.symm
            cases ao with
            | none => rfl
            | some ad => exact run_bytesToString w ad 0 0 [] (run_loadCells_list (P := P) (w := w) ad [] (fun j v h => by simp at h))
          · rw [he, run_convert_bytes_string w s d e _ _ _ hs1 hs2 hu]
            have hcs : cs = ns.map (Value.int .u8) := by
              have hl := a3.len
              rw [hfl] at hl a3
              refine List.ext_getElem (by simpa using hl.symm) fun j h1 h2 => ?_
              have := a3.rep j (by simpa using h2) h1
              simp only [List.getElem_map] at this ⊢
              exact this.atomEq
            have hlen : cs.length = xs.length := by
              rw [hcs, List.length_map, ← List.length_map (f := fun n => PV.v (.int .u8 n)), ← hfl, flat_len PV.cells 1 xs (fun x hx => bytesOf_one hb x hx), Nat.mul_one]
            refine run_bytesToString w _ _ _ ns ?_
            rw [← hcs, ← hlen]
            exact run_loadCells_list (P := P) (w := w) _ cs (fun j v h => by
              have hj : j < cs.length := (List.getElem?_eq_some_iff.1 h).1
              rw [← h, Addr.add_lit]; exact (a4 j hj).1)
      | _ => cases td <;> simp [hu, hev] at h
  case fieldAddr t x i =>
    have hx := ev_rep hF x
    cases hfl : tflds P t with
    | none => simp [hfl] at h
    | some fl =>
      cases hev : ev f x <;> simp only [hfl, hev, reduceCtorEq] at h <;> rw [hev] at hx
      case ep xs =>
        cases hi : fl[i]? with
        | none => simp [hi] at h
        | some q =>
          obtain ⟨off, n, ag⟩ := q
          simp only [hi, AR.ok.injEq] at h
          obtain ⟨rfl, rfl, rfl⟩ := h
          obtain ⟨b, o', c, he, q1, q2, q3⟩ := ep_inv hx
          refine Good.stepped (s := Instr.fieldAt t (a.eval x) i) (Good.same (by rw [he]; exact fieldAt_good hfl hi hp.1 b o' w) ?_ hI)
          refine .ep _ b (o' + off) (fun k => c (off + k)) (fun k hk => ?_) (fun k hk => by simpa using q2 (off + k) (by simp at hk; omega)) (fun k hk => by simpa using q3 (off + k) (by simp at hk; omega))
          have := q1 (off + k) (by simp at hk; omega)
          rwa [← Nat.add_assoc] at this
      case bp id o' =>
        cases hi : fl[i]? with
        | none => simp [hi] at h
        | some q =>
          obtain ⟨off, n, ag⟩ := q
          simp only [hi, AR.ok.injEq] at h
          obtain ⟨rfl, rfl, rfl⟩ := h
          obtain ⟨y, hy⟩ : ∃ y, a.eval x = y := ⟨_, rfl⟩
          rw [hy] at hx
          cases hx with
          | bp _ _ hid =>
          exact Good.stepped (s := Instr.fieldAt t (a.eval x) i) (Good.same (by rw [hy]; exact fieldAt_good hfl hi hp _ _ w) (.bp _ _ hid) hI)
  case field t x i =>
    have hx := ev_rep hF x
    cases hfl : tflds P t with
    | none => simp [hfl] at h
    | some fl =>
      cases hev : ev f x <;> simp only [hfl, hev, reduceCtorEq] at h <;> rw [hev] at hx
      case ag xs =>
        cases hi : fl[i]? with
        | none => simp [hi] at h
        | some q =>
          obtain ⟨off, n, ag⟩ := q
          simp only [hi, AR.ok.injEq] at h
          obtain ⟨rfl, rfl, rfl⟩ := h
          exact Good.stepped (s := Instr.field t (a.eval x) i) (field_good hfl hi hI hx hp)
  case indexAddr t x i =>
    have hx := ev_rep hF x
    have hi := ev_rep hF i
    cases ht : tel P t with
    | none => simp [ht] at h
    | some e =>
      cases hei : ev f i with
      | v u =>
        rw [hei] at hi
        have he := hi.atomEq
        cases hev : ev f x <;> cases u <;> simp only [ht, hev, hei, reduceCtorEq] at h <;> rw [hev] at hx
        case sl.int o' xs k n =>
          simp only [AR.ok.injEq] at h
          obtain ⟨rfl, rfl, rfl⟩ := h
          refine Good.stepped (s := Instr.indexAt t (a.eval x) (a.eval i)) ?_
          rw [he]
          exact index_good ht hI hx hp.1 hp.2.1 hp.2.2
        case bs.int id off l k n =>
          cases hd : tdat P e with
          | none => simp [hd] at h
          | some d =>
            simp only [hd, AR.ok.injEq] at h
            obtain ⟨rfl, rfl, rfl⟩ := h
            refine Good.stepped (s := Instr.indexAt t (a.eval x) (a.eval i)) ?_
            rw [he]
            exact indexBs_good ht hd hI hx hp.1 hp.2
      | _ => cases hev : ev f x <;> simp [ht, hev, hei] at h
  case index t x i =>
    have hx := ev_rep hF x
    have hi := ev_rep hF i
    split at h
    · rename_i s k n hu hex hei
      rw [hex] at hx
      rw [hei] at hi
      have he := hi.atomEq
      have he' := hx.atomEq
      simp only [AR.ok.injEq] at h
      obtain ⟨rfl, rfl, rfl⟩ := h
      refine Good.stepped (s := Instr.index t (a.eval x) (a.eval i)) (Good.same (y := .int .u8 (s.data.toList.getD n.toNat 0).toNat) ?_ (.v rfl) hI)
      rw [he, he']
      exact run_index_str hu s k hp.1 hp.2 w
    · cases h
  case slice t x lo hi mx =>
    have hx := ev_rep hF x
    have hlo : ∀ {l : Int}, loOf f lo = some l → 0 ≤ l → (lo.map a.eval = none ∧ l.toNat = 0) ∨ ∃ k, lo.map a.eval = some (.int k (l.toNat : Int)) := fun {l} hl h0 => by
      cases lo with
      | none => simp only [loOf, Option.some.injEq] at hl; subst hl; exact .inl ⟨rfl, rfl⟩
      | some q =>
        obtain ⟨k, hk⟩ := aInt_rep (ev_rep hF q) hl
        exact .inr ⟨k, by simp [hk, Int.toNat_of_nonneg h0]⟩
    split at h
    · rename_i s hu hex
      rw [hex] at hx
      have he := hx.atomEq
      cases hl : loOf f lo with
      | none => simp [hl] at h
      | some l =>
        cases hh : hiOf f s.size hi with
        | none => simp [hl, hh] at h
        | some hv =>
          simp only [hl, hh, AR.ok.injEq] at h
          obtain ⟨rfl, rfl, rfl⟩ := h
          obtain ⟨p1, p2, p3⟩ := hp
          refine Good.stepped (s := Instr.sliceAt t (a.eval x) (lo.map a.eval) (hi.map a.eval) (Option.map a.eval none)) ?_
          rw [he]
          refine sliceStr_good hu hI s (hlo hl p1) ?_ (by omega) (by omega)
          cases hi with
          | none => simp only [hiOf, Option.some.injEq] at hh; subst hh; exact .inl ⟨rfl, by omega⟩
          | some q =>
            obtain ⟨k, hk⟩ := aInt_rep (ev_rep hF q) hh
            exact .inr ⟨k, by simp [hk, Int.toNat_of_nonneg (show 0 ≤ hv by omega)]⟩
    · rename_i e o' xs hu hex
      rw [hex] at hx
      cases hl : loOf f lo with
      | none => simp [hl] at h
      | some l =>
        cases hh : hiOf f xs.length hi with
        | none => simp [hl, hh] at h
        | some hv =>
          simp only [hl, hh, AR.ok.injEq] at h
          obtain ⟨rfl, rfl, rfl⟩ := h
          obtain ⟨p1, p2, p3, d, hd, hsz⟩ := hp
          refine Good.stepped (s := Instr.sliceAt t (a.eval x) (lo.map a.eval) (hi.map a.eval) (Option.map a.eval none)) ?_
          refine sliceSl_good hu hd hI hx hsz (hlo hl p1) ?_ (by omega) (by omega)
          cases hi with
          | none => simp only [hiOf, Option.some.injEq] at hh; subst hh; exact .inl ⟨rfl, by omega⟩
          | some q =>
            obtain ⟨k, hk⟩ := aInt_rep (ev_rep hF q) hh
            exact .inr ⟨k, by simp [hk, Int.toNat_of_nonneg (show 0 ≤ hv by omega)]⟩
    · cases h
  case extract x i =>
    have hx := ev_rep hF x
    obtain ⟨y, hy⟩ : ∃ y, a.eval x = y := ⟨_, rfl⟩
    rw [hy] at hx
    cases hev : ev f x <;> simp only [hev, reduceCtorEq] at h <;> rw [hev] at hx
    rename_i xs
    simp only [AR.ok.injEq] at h
    obtain ⟨rfl, rfl, rfl⟩ := h
    cases hx with
    | tp _ cs hl hr =>
    have hlt : i < cs.length := hl ▸ hp
    refine Good.stepped (s := Instr.extract (a.eval x) i) (Good.same (y := cs[i]) (by rw [hy]; simp [Instr.extract, hlt]) ?_ hI)
    have := hr i hp hlt
    have hp' : i < xs.length := hp
    simpa [List.getD, hp'] using this
  case makeFunc g b c =>
    simp only [AR.ok.injEq] at h
    obtain ⟨rfl, rfl, rfl⟩ := h
    obtain ⟨q1, q2⟩ := reps_of hF b.toList
    obtain ⟨q3, q4⟩ := reps_of hF c.toList
    refine Good.stepped (s := Instr.makeFunc g (b.map a.eval) (c.map a.eval)) (Good.same rfl ?_ hI)
    have := Rep.fn (G := G) (w := w) g _ _ _ _ q1 q3 q2 q4
    rw [show (b.map a.eval) = (b.toList.map a.eval).toArray by apply Array.ext'; simp, show (c.map a.eval) = (c.toList.map a.eval).toArray by apply Array.ext'; simp]
    exact this
  case makeInterface t x =>
    have hx := ev_rep hF x
    cases hu : P.underlying t with
    | none => simp [hu] at h
    | some td =>
      cases td <;> simp only [hu, reduceCtorEq, AR.ok.injEq] at h
      all_goals
        obtain ⟨rfl, rfl, rfl⟩ := h
        refine Good.stepped (s := Instr.makeInterface t (a.eval x)) (Good.same (y := .iface t (a.eval x)) ?_ (.ifc t _ _ hx) hI)
        simp [Instr.makeInterface, run_underlying hu]
  case call c =>
    obtain ⟨callee, args, ats⟩ := c
    simp only at h
    cases callee with
    | builtin b =>
      simp only at h
      obtain ⟨q1, q2⟩ := reps_of hF args.toList
      have := builtin_sound hI b ats ty (args.map fun | .const _ => true | _ => false) q1 q2 h hp
      rw [show (args.toList.map a.eval).toArray = args.map a.eval by apply Array.ext'; simp] at this
      exact this
    | value g =>
      simp only at h
      cases hev : ev f g <;> simp only [hev, reduceCtorEq] at h
      rename_i fn b c
      cases fn <;> simp only [reduceCtorEq] at h
    | invoke g n => simp only [reduceCtorEq] at h

/-- A call of a function of the program. -/
theorem call_sound (hF : FR G w f a.tmps) {mu : Bool} {g : FuncId} {args : List PV} (h : aStep P mu o.op f m = .call g args) :
    ∃ vs : List Value, args.length = vs.length ∧ (∀ j (h1 : j < args.length) (h2 : j < vs.length), Rep G w args[j] vs[j]) ∧ (execOp a.eval o).run P w = (callFunc g vs.toArray).run P w := by
  obtain ⟨dst, op, ty, pos, after, guard⟩ := o
  simp only at h
  cases op <;> simp only [aStep, reduceCtorEq] at h
  case call c =>
    obtain ⟨callee, as, ats⟩ := c
    simp only at h
    cases callee with
    | builtin b =>
      simp only at h
      unfold aBuiltin at h
      repeat' split at h
      all_goals simp only [reduceCtorEq] at h
    | value x =>
      simp only at h
      have hx := ev_rep hF x
      obtain ⟨y, hy⟩ : ∃ y, a.eval x = y := ⟨_, rfl⟩
      rw [hy] at hx
      cases hev : ev f x <;> simp only [hev, reduceCtorEq] at h <;> rw [hev] at hx
      rename_i fn b c
      cases fn <;> simp only [reduceCtorEq, AR.call.injEq] at h
      obtain ⟨rfl, rfl⟩ := h
      obtain ⟨q1, q2⟩ := reps_of hF as.toList
      cases hx with
      | fn _ _ _ b' c' hb hc h1 h2 =>
      refine ⟨b' ++ as.toList.map a.eval ++ c', by simp [hb, hc], fun j k1 k2 => ?_, ?_⟩
      · simp only [List.getElem_append]
        simp only [List.length_append, List.length_map] at k1 k2 ⊢
        by_cases e1 : j < b.length + as.toList.length
        · by_cases e2 : j < b.length
          · have e2' : j < b'.length := hb ▸ e2
            simp only [e2, e2', e1, hb ▸ e1, dite_true]
            exact h1 j e2 e2'
          · have e2' : ¬ j < b'.length := hb ▸ e2
            have e1' : j < b'.length + as.toList.length := hb ▸ e1
            simp only [e2, e2', e1, e1', dite_true, dite_false]
            have := q2 (j - b.length) (by simp at e1 ⊢; omega) (by simp at e1 ⊢; omega)
            simpa [hb] using this
        · have e1' : ¬ j < b'.length + as.toList.length := hb ▸ e1
          simp only [e1, e1', dite_false]
          have := h2 (j - (b.length + as.toList.length)) (by omega) (by omega)
          simpa [hb] using this
      · simp only [execOp, resolve, hy, Deferred.ofValue, Sem.run_bind, Sem.run_pure, Result.andThen_ok, invoke]
        congr 2
        apply Array.ext'
        simp
    | invoke g n => simp only [reduceCtorEq] at h
  all_goals (exfalso; repeat' split at h)
  all_goals simp only [reduceCtorEq] at h
end
end Go.Proofs.Ytibhhoknipdlpaa
