/-
  Texts that belong together: CeSt, CeRun3, CeRun4, CeFn.
-/
import Derived.Test.YtepjjgnkhcjpcaaCeG1
import Derived.Test.YtepjjgnkhcjpcaaAbDrwZ
/-
  The state of a run of clite: the machine's memory, what was touched, the fuel; what a call changes.
-/
set_option linter.unusedVariables false
set_option linter.unusedSimpArgs false
namespace Go.Proofs.Ytepjjgnkhcjpcaa
open Go

/-- The states that differ in one box. -/
def isT (id : Nat) (m m2 : M) : Prop := ∃ c, m2 = m.upd id c
theorem isT_all {id : Nat} {m : M} {Q : M → Prop} : (∀ m2, isT id m m2 → Q m2) = ∀ c, Q (m.upd id c) := by
  refine propext ⟨fun h i => h _ ⟨i, rfl⟩, fun h m2 ⟨i, e⟩ => e ▸ h i⟩
theorem isT_self {id : Nat} {m : M} {c : List PV} (h : m.get id = some c) : isT id m m := by
  refine ⟨c, ?_⟩
  unfold M.get at h
  cases hb : m.boxes[id]? with
  | none => rw [hb] at h; cases h
  | some x =>
    rw [hb] at h
    obtain ⟨h1, h2⟩ := List.getElem?_eq_some_iff.1 hb
    have hx : x = some c := h
    unfold M.upd
    have : m.boxes.set id (some c) = m.boxes := by rw [← hx, ← h2]; exact List.set_getElem_self h1
    rw [this]
/-- The states of which something is so. -/
def isP (p : M → Prop) (m : M) : Prop := ∃ x : Subtype p, m = x.1
theorem isP_all {p : M → Prop} {Q : M → Prop} : (∀ m2, isP p m2 → Q m2) = ∀ x : Subtype p, Q x.1 :=
  propext ⟨fun h x => h _ ⟨x, rfl⟩, fun h m2 ⟨x, e⟩ => e ▸ h x⟩
theorem isP_of {p : M → Prop} {m : M} (h : p m) : isP p m := ⟨⟨m, h⟩, rfl⟩
/-- What stands in the boxes that are not named stays. -/
structure Chg (ids : List Nat) (m m' : M) : Prop where
  nb : m'.nb = m.nb
  toks : m'.toks = m.toks
  get : ∀ k, k ∉ ids → m'.get k = m.get k
theorem Chg.refl (ids : List Nat) (m : M) : Chg ids m m := ⟨rfl, rfl, fun _ _ => rfl⟩
theorem Chg.trans {ids : List Nat} {m m' m'' : M} (h : Chg ids m m') (h' : Chg ids m' m'') : Chg ids m m'' :=
  ⟨h'.nb.trans h.nb, h'.toks.trans h.toks, fun k hk => (h'.get k hk).trans (h.get k hk)⟩
theorem Chg.mono {ids ids' : List Nat} {m m' : M} (h : Chg ids m m') (hs : ∀ k ∈ ids, k ∈ ids') : Chg ids' m m' :=
  ⟨h.nb, h.toks, fun k hk => h.get k fun h' => hk (hs k h')⟩
theorem Chg.upd {ids : List Nat} (m : M) {id : Nat} (c : List PV) (h : id ∈ ids) : Chg ids m (m.upd id c) :=
  ⟨by simp [M.upd, M.nb], rfl, fun k hk => by rw [M.get_upd, if_neg (by rintro ⟨rfl, _⟩; exact hk h)]⟩
theorem get_nb {m : M} {id : Nat} {c : List PV} (h : m.get id = some c) : id < m.nb := by
  unfold M.get at h
  cases h' : m.boxes[id]? with
  | none => rw [h'] at h; cases h
  | some x => exact (List.getElem?_eq_some_iff.1 h').1
theorem get_upd_eq {m : M} {id : Nat} {c c' : List PV} (h : m.get id = some c) : (m.upd id c').get id = some c' := by
  rw [M.get_upd, if_pos ⟨rfl, get_nb h⟩]
theorem get_upd_ne {m : M} {id k : Nat} {c' : List PV} (h : k ≠ id) : (m.upd id c').get k = m.get k := by
  rw [M.get_upd, if_neg (fun h' => h h'.1)]
/-- A call leaves its own boxes and tokens. -/
def M.cut (mm m : M) : M := ⟨mm.boxes.take m.nb, m.toks⟩
theorem cut_get (mm m : M) (k : Nat) : (mm.cut m).get k = if k < m.nb then mm.get k else none := by
  unfold M.get M.cut
  simp only [List.getElem?_take]
  split <;> rfl
theorem leave_cut {m mm : M} {v : PV} {R : PV → M → Prop} (hnb : m.nb ≤ mm.nb) (ht : mm.toks.take m.nt = m.toks) (hp : ∀ id c, id < m.nb → mm.get id = some c → m.get id = some c ∨ PV.pures c = true) (hv : v.settle.pure = true) (hR : R v.settle (mm.cut m)) :
    ∃ v' m', Leave m mm v v' m' ∧ R v' m' := by
  have hl : (mm.boxes.take m.nb).length = m.nb := by
    rw [List.length_take]
    exact Nat.min_eq_left hnb
  refine ⟨_, _, .upd v (mm.cut m) hl ?_ ht (Nat.le_refl _) (fun id c hc => ?_) hv, hR⟩
  · show _ = mm.boxes.take m.nb
    rfl
  · rw [cut_get] at hc
    split at hc
    · exact hp id c (by assumption) hc
    · cases hc
theorem M.ext_eq {m m' : M} (hb : m'.boxes = m.boxes) (ht : m'.toks = m.toks) : m' = m := by cases m; cases m'; simp_all
theorem leave_chg {ids : List Nat} {m mm : M} {v : PV} {R : PV → M → Prop} (h : Chg ids m mm) (hp : ∀ id ∈ ids, ∀ c, mm.get id = some c → PV.pures c = true) (hv : v.settle.pure = true) (hR : R v.settle mm) : ∃ v' m', Leave m mm v v' m' ∧ R v' m' := by
  have hcut : mm.cut m = mm := M.ext_eq (by show mm.boxes.take m.nb = _; rw [← h.nb]; exact List.take_length) (h.toks.symm)
  refine leave_cut (by rw [h.nb]; exact Nat.le_refl _) (by rw [h.toks]; exact List.take_length) (fun id c _ hc => ?_) hv (by rw [hcut]; exact hR)
  by_cases hi : id ∈ ids
  · exact .inr (hp id hi c hc)
  · exact .inl (by rw [← h.get id hi]; exact hc)

/-- The boxes of a run. -/
structure RP where
  mid : Nat
  memid : Nat
  tid : Nat
  lid : Nat
def RP.ids (p : RP) : List Nat := [p.memid, p.tid, p.lid]
structure RP.ok (p : RP) : Prop where
  n1 : p.mid ≠ p.memid
  n2 : p.mid ≠ p.tid
  n3 : p.mid ≠ p.lid
  n4 : p.memid ≠ p.tid
  n5 : p.memid ≠ p.lid
  n6 : p.tid ≠ p.lid
abbrev memB (l : List Int) : List PV := l.map fun x => .v (.int .i32 x)
abbrev tchB (l : List Bool) : List PV := l.map fun b => .v (.bool b)
/-- The state of a run stands in these boxes. -/
structure RS (p : RP) (L : List Sr) (fns : List CFn) (s : CM) (m : M) : Prop where
  mid : m.get p.mid = some [.sl .no (L.map Sr.pv), .sl .no (fns.map CFn.pv), .bs p.memid 0 s.mem.length, .bs p.tid 0 s.mem.length]
  mem : m.get p.memid = some (memB s.mem)
  tch : m.get p.tid = some (tchB s.tch)
  lid : m.get p.lid = some [.v (.int .i64 s.left)]
  tlen : s.tch.length = s.mem.length
  mlen : s.mem.length ≤ 1048576
  l62 : s.left < 2 ^ 62
  m32 : ∀ x ∈ s.mem, R32 x
section
variable {p : RP} {L : List Sr} {fns : List CFn} {s : CM} {m m' : M}
theorem RS.of (h : RS p L fns s m) (h1 : m'.get p.mid = m.get p.mid) (h2 : m'.get p.memid = m.get p.memid) (h3 : m'.get p.tid = m.get p.tid) (h4 : m'.get p.lid = m.get p.lid) : RS p L fns s m' :=
  ⟨h1.trans h.mid, h2.trans h.mem, h3.trans h.tch, h4.trans h.lid, h.tlen, h.mlen, h.l62, h.m32⟩
theorem RS.tick (hp : p.ok) (h : RS p L fns s m) : RS p L fns { s with left := s.left - 1 } (m.upd p.lid [.v (.int .i64 ((s.left - 1 : Nat) : Int))]) :=
  ⟨by rw [get_upd_ne hp.n3]; exact h.mid, by rw [get_upd_ne hp.n5]; exact h.mem, by rw [get_upd_ne hp.n6]; exact h.tch, get_upd_eq h.lid, h.tlen, h.mlen, by have := h.l62; show s.left - 1 < _; omega, h.m32⟩
theorem RS.touch (hp : p.ok) (h : RS p L fns s m) (k : Nat) : RS p L fns { s with tch := s.tch.set k true } (m.upd p.tid (tchB (s.tch.set k true))) :=
  ⟨by rw [get_upd_ne hp.n2]; exact h.mid, by rw [get_upd_ne hp.n4]; exact h.mem, get_upd_eq h.tch, by rw [get_upd_ne (Ne.symm hp.n6)]; exact h.lid, by show (s.tch.set k true).length = _; rw [List.length_set]; exact h.tlen, h.mlen, h.l62, h.m32⟩
theorem RS.store (hp : p.ok) (h : RS p L fns s m) (k : Nat) (x : Int) (hx : R32 x) : RS p L fns { s with mem := s.mem.set k x } (m.upd p.memid (memB (s.mem.set k x))) :=
  ⟨by rw [get_upd_ne hp.n1]; show _ = some [PV.sl _ _, PV.sl _ _, PV.bs _ 0 (s.mem.set k x).length, PV.bs _ 0 (s.mem.set k x).length]; rw [List.length_set]; exact h.mid, get_upd_eq h.mem, by rw [get_upd_ne (Ne.symm hp.n4)]; exact h.tch, by rw [get_upd_ne (Ne.symm hp.n5)]; exact h.lid, by show _ = (s.mem.set k x).length; rw [List.length_set]; exact h.tlen, by show (s.mem.set k x).length ≤ _; rw [List.length_set]; exact h.mlen, h.l62, fun y hy => by
    rcases List.mem_or_eq_of_mem_set hy with h' | h'
    · exact h.m32 y h'
    · exact h' ▸ hx⟩
end
theorem pures_atoms {α : Type} (f : α → Value) (hf : ∀ a, PV.pure (.v (f a)) = true) : ∀ l : List α, PV.pures (l.map fun x => PV.v (f x)) = true
  | [] => rfl
  | a :: l => by simp only [List.map_cons, PV.pures, hf a, pures_atoms f hf l, Bool.and_self]
theorem pures_mem (l : List Int) : PV.pures (memB l) = true := pures_atoms (fun x => .int .i32 x) (fun _ => rfl) l
theorem pures_tch (l : List Bool) : PV.pures (tchB l) = true := pures_atoms (fun x => .bool x) (fun _ => rfl) l
theorem pures_env (v : Env) : PV.pures [.tp (envK v), .tp (envV v)] = true := by
  show (PV.pures (envK v) && (PV.pures (envV v) && true)) = true
  rw [show PV.pures (envK v) = true from pures_atoms (fun x : Str × Int => .string x.1) (fun _ => rfl) v, show PV.pures (envV v) = true from pures_atoms (fun x : Str × Int => .int .i32 x.2) (fun _ => rfl) v]
  rfl
theorem RS.pure {p : RP} {L : List Sr} {fns : List CFn} {s : CM} {m : M} (h : RS p L fns s m) : ∀ id ∈ p.ids, ∀ c, m.get id = some c → PV.pures c = true := by
  intro id hid c hc
  simp only [RP.ids, List.mem_cons, List.not_mem_nil, or_false] at hid
  rcases hid with rfl | rfl | rfl
  · rw [h.mem] at hc; cases hc; exact pures_mem _
  · rw [h.tch] at hc; cases hc; exact pures_tch _
  · rw [h.lid] at hc; cases hc; rfl
/-- A frame: its boxes, its function, the cell it begins at. -/
structure Cx where
  p : RP
  L : List Sr
  fns : List CFn
  fid : Nat
  eid : Nat
  fn : CFn
  base : Int
  deep : Nat
def Cx.frame (c : Cx) : List PV := [.bp c.p.mid 0, .v (.string c.fn.name), .v (.string c.fn.self), pSL c.fn.ins, pSL c.fn.outs, pSL c.fn.locals, .sl .no (c.fn.body.map CS.pv), .v (.int .i64 c.base), .mp c.eid, .bp c.p.lid 0, .v (.int .i64 c.deep)]
structure Cx.ok (c : Cx) : Prop where
  p : c.p.ok
  L : c.L.length ≤ 1000000
  F : ∀ s ∈ c.L, s.fields.length ≤ 1000000
  e : c.eid ≠ c.p.mid ∧ c.eid ≠ c.p.memid ∧ c.eid ≠ c.p.tid ∧ c.eid ≠ c.p.lid
  f : c.fid ≠ c.eid ∧ c.fid ≠ c.p.memid ∧ c.fid ≠ c.p.tid ∧ c.fid ≠ c.p.lid
structure Cx.At (c : Cx) (s : CM) (env : Env) (m : M) : Prop where
  rs : RS c.p c.L c.fns s m
  fr : m.get c.fid = some c.frame
  en : m.get c.eid = some [.tp (envK env), .tp (envV env)]
  e32 : ∀ x ∈ env, R32 x.2
section
variable {c : Cx} {s s' : CM} {env : Env} {m m' : M}
/-- The frame stands where but the run's boxes turned. -/
theorem Cx.At.run (hk : c.ok) (h : c.At s env m) (hr : RS c.p c.L c.fns s' m') (hc : Chg c.p.ids m m') : c.At s' env m' := by
  have h1 : c.fid ∉ c.p.ids := by simp only [RP.ids, List.mem_cons, List.not_mem_nil, or_false, not_or]; exact ⟨hk.f.2.1, hk.f.2.2.1, hk.f.2.2.2⟩
  have h2 : c.eid ∉ c.p.ids := by simp only [RP.ids, List.mem_cons, List.not_mem_nil, or_false, not_or]; exact ⟨hk.e.2.1, hk.e.2.2.1, hk.e.2.2.2⟩
  exact ⟨hr, (hc.get _ h1).trans h.fr, (hc.get _ h2).trans h.en, h.e32⟩
/-- What came out, or how it ended. -/
def RetC {α : Type} (c : Cx) (env : Env) (m : M) (r : CRn α) (val : α → PV) (ok : α → Prop) (v : PV) (m' : M) : Prop := ∃ a s', r = .ok a s' ∧ v = val a ∧ ok a ∧ c.At s' env m' ∧ Chg c.p.ids m m'
def BadC {α : Type} (p : RP) (L : List Sr) (fns : List CFn) (ids : List Nat) (m : M) (r : CRn α) (v : PV) (m' : M) : Prop := ∃ how s', r = .bad how s' ∧ v = faultPV how ∧ RS p L fns s' m' ∧ Chg ids m m'
theorem leave_run {v : PV} {R : PV → M → Prop} (hr : RS c.p c.L c.fns s' m') (hc : Chg c.p.ids m m') (hv : v.settle.pure = true) (hR : R v.settle m') : ∃ v' m'', Leave m m' v v' m'' ∧ R v' m'' :=
  leave_chg hc hr.pure hv hR
end
end Go.Proofs.Ytepjjgnkhcjpcaa

/-
  The frame's expressions.
-/
set_option linter.unusedVariables false
set_option linter.unusedSimpArgs false
namespace Go.Proofs.Ytepjjgnkhcjpcaa
open Go
-- EXX: CE.settle_pv, CE.pure_pv, CE.cells_pv, CE.cs, Cx.frame
set_option maxRecDepth 20000
-- TNAMES: int; uint8; int32; string; bool; *int; clite.Func; clite.frame; *clite.frame; clite.fault; clite.Machine; *clite.Machine; clite.Prog; []bool; []int32; []clite.Struct; []clite.Func; clite.Expr; []clite.Expr; [7]int; map[string]int32
-- BUNDLE

theorem cellC_left (L : List Sr) (self : Str) (base : Int) (fld : Str) (s : CM) :
    cellC L self base fld s = match cellC L self base fld ⟨s.mem, s.tch, 0⟩ with
      | .ok k _ => .ok k { s with tch := s.tch.set k true }
      | .bad h _ => .bad h s := by
  unfold cellC
  simp only []
  split
  · split <;> simp_all
  · split <;> simp_all
mutual
def CE.good : CE → Prop
  | .mk k op n nm kids => (0 ≤ k ∧ k ≤ 255) ∧ R32 n ∧ CE.goods kids
def CE.goods : List CE → Prop
  | [] => True
  | e :: l => e.good ∧ CE.goods l
end
theorem CE.goods_mem : ∀ (l : List CE), CE.goods l → ∀ e ∈ l, e.good
  | [], _, e, h => by cases h
  | a :: l, hg, e, h => by
    rcases List.mem_cons.1 h with rfl | h
    · exact hg.1
    · exact CE.goods_mem l hg.2 e h
theorem CE.good_kind {e : CE} (h : e.good) : 0 ≤ e.kind ∧ e.kind ≤ 255 := by cases e; exact h.1
theorem CE.good_n {e : CE} (h : e.good) : R32 e.n := by cases e; exact h.2.1
theorem CE.good_kids {e : CE} (h : e.good) : ∀ x ∈ e.kids, x.good := by cases e; exact CE.goods_mem _ h.2.2
theorem CRn.bind_bad {α β : Type} {r : CRn α} {k : α → CM → CRn β} {h : Nat} {m : CM} (hr : r = .bad h m) : r.bind k = .bad h m := by rw [hr]; rfl
theorem CRn.bind_ok {α β : Type} {r : CRn α} {k : α → CM → CRn β} {a : α} {m : CM} (hr : r = .ok a m) : r.bind k = k a m := by rw [hr]; rfl
section
variable {c : Cx} {s : CM} {env : Env} {m : M}
theorem stepX (hk : c.ok) (h : c.At s env m) : ACallsZ Try.prog 51 [.bp c.fid 0] m (fun v m' => ∃ s', stepC s = .ok () s' ∧ c.At s' env m' ∧ Chg c.p.ids m m') (BadC c.p c.L c.fns c.p.ids m (stepC s)) := by
  refine ACallsZ.mono (step_any m c.fid c.p.lid c.eid c.p.mid [.v (.string c.fn.name), .v (.string c.fn.self), pSL c.fn.ins, pSL c.fn.outs, pSL c.fn.locals, .sl .no (c.fn.body.map CS.pv)] c.base c.deep s.left rfl h.rs.l62 _ _ _ _ _ _ rfl h.fr h.rs.lid) ?_ ?_
  · rintro v m' ⟨h1, rfl⟩
    have hc : Chg c.p.ids m (m.upd c.p.lid [.v (.int .i64 ((s.left - 1 : Nat) : Int))]) := .upd _ _ (by simp [RP.ids])
    exact ⟨_, by unfold stepC; rw [if_neg (by omega)], h.run hk (h.rs.tick hk.p) hc, hc⟩
  · rintro v m' ⟨h1, rfl, rfl⟩
    exact ⟨4, s, by unfold stepC; rw [if_pos h1], rfl, h.rs, .refl _ _⟩
theorem localX (hk : c.ok) (h : c.At s env m) (nm : Str) : ACallsZ Try.prog 45 [.bp c.fid 0, .v (.string nm)] m (fun v m' => ∃ x, env.find nm = some x ∧ v = pJ x ∧ m' = m) (fun v m' => env.find nm = none ∧ v = faultPV 3 ∧ m' = m) :=
  flocal_any m c.fid c.p.lid c.eid c.p.mid c.base c.deep env nm _ _ _ _ _ _ h.fr h.en
theorem cellX (hk : c.ok) (h : c.At s env m) (nm : Str) : ACallsZ Try.prog 53 [.bp c.fid 0, .v (.string nm)] m (fun v m' => ∃ (k : Nat) (s' : CM), v = .v (.int .i64 k) ∧ cellC c.L c.fn.self c.base nm s = .ok k s' ∧ k < s.mem.length ∧ s'.mem = s.mem ∧ m' = m.upd c.p.tid (tchB s'.tch) ∧ c.At s' env m' ∧ Chg [c.p.tid] m m')
    (BadC c.p c.L c.fns c.p.ids m (cellC c.L c.fn.self c.base nm s)) := by
  refine ACallsZ.mono (cell_any m c.fid c.p.lid c.eid c.p.mid c.p.memid c.p.tid c.base c.deep c.L (c.fns.map CFn.pv) c.fn.self nm s.mem s.tch hk.L hk.F h.rs.tlen h.rs.mlen _ _ _ _ _ h.fr h.rs.mid h.rs.tch) ?_ ?_
  · rintro v m' ⟨k, rfl, h1, h2, rfl⟩
    have hc : Chg [c.p.tid] m (m.upd c.p.tid (tchB (s.tch.set k true))) := .upd _ _ (by simp)
    have hc' : Chg c.p.ids m (m.upd c.p.tid (tchB (s.tch.set k true))) := .upd _ _ (by simp [RP.ids])
    exact ⟨k, { s with tch := s.tch.set k true }, rfl, by rw [cellC_left, h1], h2, rfl, rfl, h.run hk (h.rs.touch hk.p k) hc', hc⟩
  · rintro v m' ⟨h1, rfl, rfl⟩
    exact ⟨2, s, by rw [cellC_left, h1], rfl, h.rs, .refl _ _⟩
theorem leave_bad {α : Type} {m1 : M} {v : PV} {R : PV → M → Prop} {r : CRn α} (h : BadC c.p c.L c.fns c.p.ids m1 r v m) (hc : Chg c.p.ids m m) {m0 : M} (h0 : Chg c.p.ids m0 m1) (hR : ∀ how s', r = .bad how s' → RS c.p c.L c.fns s' m → Chg c.p.ids m0 m → R (faultPV how) m) : ∃ v' m'', Leave m0 m v v' m'' ∧ R v' m'' := by
  obtain ⟨how, s', hr, rfl, hrs, hc1⟩ := h
  exact leave_run hrs (h0.trans hc1) rfl (hR how s' hr hrs (h0.trans hc1))
end
/-- How many parts an expression has. -/
def wantN (k : Nat) : Nat := [0, 0, 0, 0, 1, 2, 3].getD k 0
theorem want_at (k : Nat) (h : k < 7) : ∃ r : List PV, List.drop (k * 1) [PV.v (.int .i64 0), PV.v (.int .i64 0), PV.v (.int .i64 0), PV.v (.int .i64 0), PV.v (.int .i64 1), PV.v (.int .i64 2), PV.v (.int .i64 3)] = .v (.int .i64 (wantN k)) :: r := by
  have : k = 0 ∨ k = 1 ∨ k = 2 ∨ k = 3 ∨ k = 4 ∨ k = 5 ∨ k = 6 := by omega
  rcases this with rfl | rfl | rfl | rfl | rfl | rfl | rfl <;> exact ⟨_, rfl⟩
theorem evalC_eq (un : Int → Int → Int) (bin : Int → Int → Int → Int) (L : List Sr) (self : Str) (base : Int) (env : Env) (e : CE) (m : CM) : evalC un bin L self base env e m = (stepC m).bind fun _ m =>
    if e.kind = 1 then (match e.kids with | [] => .ok e.n m | _ => .bad 6 m)
    else if e.kind = 2 then (match e.kids with | [] => (match env.find e.name with | some x => .ok x m | none => .bad 3 m) | _ => .bad 6 m)
    else if e.kind = 3 then (match e.kids with | [] => (cellC L self base e.name m).bind fun k m => .ok (m.mem.getD k 0) m | _ => .bad 6 m)
    else if e.kind = 4 then (match e.kids with | [a] => (evalC un bin L self base env a m).bind fun x m => .ok (un e.op x) m | _ => .bad 6 m)
    else if e.kind = 5 then (match e.kids with | [a, b] => (evalC un bin L self base env a m).bind fun x m => (evalC un bin L self base env b m).bind fun y m => .ok (bin e.op x y) m | _ => .bad 6 m)
    else if e.kind = 6 then (match e.kids with | [a, b, c] => (evalC un bin L self base env a m).bind fun x m => if x ≠ 0 then evalC un bin L self base env b m else evalC un bin L self base env c m | _ => .bad 6 m)
    else .bad 6 m := by
  cases e
  rw [evalC]
  rfl
/-- .. one that is none. -/
theorem evalC_none (un : Int → Int → Int) (bin : Int → Int → Int → Int) (L : List Sr) (self : Str) (base : Int) (env : Env) (e : CE) (m m1 : CM) (h1 : stepC m = .ok () m1) (h : e.kind = 0 ∨ 7 ≤ e.kind ∨ (0 ≤ e.kind ∧ e.kids.length ≠ wantN e.kind.toNat)) : evalC un bin L self base env e m = .bad 6 m1 := by
  rw [evalC_eq, CRn.bind_ok h1]
  by_cases q1 : e.kind = 1
  · rw [if_pos q1]
    cases hk : e.kids with
    | nil => rw [hk, q1] at h; rcases h with h | h | h <;> first | omega | exact absurd rfl h.2
    | cons => rfl
  rw [if_neg q1]
  by_cases q2 : e.kind = 2
  · rw [if_pos q2]
    cases hk : e.kids with
    | nil => rw [hk, q2] at h; rcases h with h | h | h <;> first | omega | exact absurd rfl h.2
    | cons => rfl
  rw [if_neg q2]
  by_cases q3 : e.kind = 3
  · rw [if_pos q3]
    cases hk : e.kids with
    | nil => rw [hk, q3] at h; rcases h with h | h | h <;> first | omega | exact absurd rfl h.2
    | cons => rfl
  rw [if_neg q3]
  by_cases q4 : e.kind = 4
  · rw [if_pos q4]
    match hk : e.kids with
    | [] => rfl
    | [a] => rw [hk, q4] at h; rcases h with h | h | h <;> first | omega | exact absurd rfl h.2
    | _ :: _ :: _ => rfl
  rw [if_neg q4]
  by_cases q5 : e.kind = 5
  · rw [if_pos q5]
    match hk : e.kids with
    | [] => rfl
    | [a] => rfl
    | [a, b] => rw [hk, q5] at h; rcases h with h | h | h <;> first | omega | exact absurd rfl h.2
    | _ :: _ :: _ :: _ => rfl
  rw [if_neg q5]
  by_cases q6 : e.kind = 6
  · rw [if_pos q6]
    match hk : e.kids with
    | [] => rfl
    | [a] => rfl
    | [a, b] => rfl
    | [a, b, c] => rw [hk, q6] at h; rcases h with h | h | h <;> first | omega | exact absurd rfl h.2
    | _ :: _ :: _ :: _ :: _ => rfl
  rw [if_neg q6]
end Go.Proofs.Ytepjjgnkhcjpcaa

/-
  The frame's expressions: the walk.
-/
set_option linter.unusedVariables false
set_option linter.unusedSimpArgs false
namespace Go.Proofs.Ytepjjgnkhcjpcaa
open Nat renaming reduceEqDiff → jA, reduceAdd → jB, reduceMul → jC, reduceLT → jD, reduceLeDiff → jE, reduceBEq → jF, reduceBNe → jG
open Int renaming reduceLE → jH, reduceLT → jI, reduceToNat → jJ, reduceEq → jK
open Go
-- EXX: CE.settle_pv, CE.pure_pv, CE.cells_pv, CE.cs, Cx.frame
set_option maxRecDepth 20000
-- TNAMES: int; uint8; int32; string; bool; *int; clite.Func; clite.frame; *clite.frame; clite.fault; clite.Machine; *clite.Machine; clite.Prog; []bool; []int32; []clite.Struct; []clite.Func; clite.Expr; []clite.Expr; [7]int; map[string]int32
set_option linter.defProp false
def tfCeRun4 := And.intro @tfA (And.intro @Ex.settle_pv (And.intro @Ex.pure_pv (And.intro @Ex.cells_pv (And.intro @Ex.cs.eq_1 (And.intro @On.pv.eq_1 (And.intro @Ty.pv.eq_1 (And.intro @Va.settle_pv (And.intro @Va.pure_pv (And.intro @Va.cells_pv (And.intro @Va.cs.eq_1 (And.intro @CE.settle_pv (And.intro @CE.pure_pv (And.intro @CE.cells_pv (And.intro @CE.cs.eq_1 @Cx.frame.eq_1))))))))))))))

def ExprC (e : CE) : Prop := ∀ (c : Cx) (s : CM) (env : Env) (m : M), c.ok → c.At s env m →
  ACallsZ Try.prog 52 [.bp c.fid 0, .ag e.cs] m (RetC c env m (evalC unN binN c.L c.fn.self c.base env e s) pJ R32) (BadC c.p c.L c.fns c.p.ids m (evalC unN binN c.L c.fn.self c.base env e s))
theorem len2 {α : Type} {l : List α} (h : l.length = 2) : ∃ a b, l = [a, b] := by
  match l, h with
  | [a, b], _ => exact ⟨a, b, rfl⟩
theorem len3 {α : Type} {l : List α} (h : l.length = 3) : ∃ a b c, l = [a, b, c] := by
  match l, h with
  | [a, b, c], _ => exact ⟨a, b, c, rfl⟩
theorem env_find32 {env : Env} (h : ∀ x ∈ env, R32 x.2) {s : Str} {x : Int} (hf : env.find s = some x) : R32 x := by
  unfold Env.find at hf
  rw [Option.map_eq_some_iff] at hf
  obtain ⟨y, hy, rfl⟩ := hf
  exact h y (List.mem_of_find?_eq_some hy)
set_option maxHeartbeats 8000000 in
theorem exprS_run (e : CE) (ih : ∀ (k : Nat) (hk : k < e.kids.length), ExprC e.kids[k]) (hg : e.good) : ExprC e := by
  intro c s env m hk h
  have hk0 := CE.good_kind hg
  have hu := Try.underlying88
  obtain ⟨EV, hEV⟩ : ∃ EV, evalC unN binN c.L c.fn.self c.base env e s = EV := ⟨_, rfl⟩
  rw [hEV]
  refine ACallsZ.enter (mu := []) ok_mix Try.func52 rfl (by kernel_rfl) (by kernel_rfl) (by simp only [List.length_cons, List.length_nil, Try.ntmps52]; omega) ?_
  (repeat (first | refine aSeq fun X hX => ?_ | refine aBlk ?_ | refine aSkip ?_ | (first | refine aExit ?_ | refine aRet ?_); try simp only [slx, ↓reduceIte, Nat.reduceEqDiff, reduceCtorEq] | (first | refine aReg ?_ | refine aDrE ?_); simp -implicitDefEqProofs only [forall_eq, ↓slp, slb, ↓reduceIte, reduceCtorEq, jA, jB, jC, jD, jE, jF, jG, jH, jI, jJ, jK, tfCeRun4] | refine hX _ _ ?_; clear hX X | clear hX X; refine hX _ _ ?_; clear hX X | clear hX X; clear hX X; refine hX _ _ ?_; clear hX X | intro hlen; unfold maxLen at hlen | apply And.intro; focus (first | omega | assumption | (repeat' apply And.intro) <;> first | omega | assumption)))
  refine callP (stepX hk h) ?_ ?_
  · rintro v m' ⟨how, s', hr, rfl, hrs, hc⟩
    exact leave_run hrs hc rfl ⟨how, s', by rw [← hEV, evalC_eq, CRn.bind_bad hr], rfl, hrs, hc⟩
  rintro v m1 ⟨s1, hs1, h1, hc1⟩
  have f1 : m1.get c.fid = some c.frame := h1.fr
  have hnone : (e.kind = 0 ∨ 7 ≤ e.kind ∨ (0 ≤ e.kind ∧ e.kids.length ≠ wantN e.kind.toNat)) → EV = .bad 6 s1 := fun h => by rw [← hEV]; exact evalC_none _ _ _ _ _ _ _ _ _ hs1 h
  have w0 : IntKind.i64.wrap e.kind = e.kind := wrap64 (by omega)
  cases c7 : decide (e.kind ≥ 7) with
  | true =>
    have h7 : 7 ≤ e.kind := by simpa using c7
    simp -implicitDefEqProofs only [↓slp, slb, ↓reduceIte, reduceCtorEq, jA, jB, jC, jD, jE, jF, jG, jH, jI, jJ, jK, tfCeRun4, c7, w0]
    (repeat (first | refine aSeq fun X hX => ?_ | refine aBlk ?_ | refine aSkip ?_ | (first | refine aExit ?_ | refine aRet ?_); try simp only [slx, ↓reduceIte, Nat.reduceEqDiff, reduceCtorEq] | (first | refine aReg ?_ | refine aDrE ?_); simp -implicitDefEqProofs only [forall_eq, ↓slp, slb, ↓reduceIte, reduceCtorEq, jA, jB, jC, jD, jE, jF, jG, jH, jI, jJ, jK, tfCeRun4, c7, w0] | refine hX _ _ ?_; clear hX X | clear hX X; refine hX _ _ ?_; clear hX X | clear hX X; clear hX X; refine hX _ _ ?_; clear hX X | intro hlen; unfold maxLen at hlen | apply And.intro; focus (first | omega | assumption | (repeat' apply And.intro) <;> first | omega | assumption)))
    refine aIf ?_; simp -implicitDefEqProofs only [↓slp, slb, ↓reduceIte, reduceCtorEq, jA, jB, jC, jD, jE, jF, jG, jH, jI, jJ, jK]
    (repeat (first | refine aSeq fun X hX => ?_ | refine aBlk ?_ | refine aSkip ?_ | (first | refine aExit ?_ | refine aRet ?_); try simp only [slx, ↓reduceIte, Nat.reduceEqDiff, reduceCtorEq] | (first | refine aReg ?_ | refine aDrE ?_); simp -implicitDefEqProofs only [forall_eq, ↓slp, slb, ↓reduceIte, reduceCtorEq, jA, jB, jC, jD, jE, jF, jG, jH, jI, jJ, jK, tfCeRun4, hu] | refine hX _ _ ?_; clear hX X | clear hX X; refine hX _ _ ?_; clear hX X | clear hX X; clear hX X; refine hX _ _ ?_; clear hX X | intro hlen; unfold maxLen at hlen | apply And.intro; focus (first | omega | assumption | (repeat' apply And.intro) <;> first | omega | assumption)))
    exact leave_run h1.rs hc1 rfl ⟨6, s1, hnone (.inr (.inl h7)), rfl, h1.rs, hc1⟩
  | false =>
  have h7 : e.kind < 7 := by simp at c7; omega
  obtain ⟨gr, gW⟩ := want_at e.kind.toNat (by omega)
  cases c8 : (((e.kids.length : Int)) == (wantN e.kind.toNat : Int)) with
  | false =>
    have h8 : e.kids.length ≠ wantN e.kind.toNat := by simp at c8; omega
    simp -implicitDefEqProofs only [↓slp, slb, ↓reduceIte, reduceCtorEq, jA, jB, jC, jD, jE, jF, jG, jH, jI, jJ, jK, tfCeRun4, c7, w0]
    (repeat (first | refine aSeq fun X hX => ?_ | refine aBlk ?_ | refine aSkip ?_ | (first | refine aExit ?_ | refine aRet ?_); try simp only [slx, ↓reduceIte, Nat.reduceEqDiff, reduceCtorEq] | (first | refine aReg ?_ | refine aDrE ?_); simp -implicitDefEqProofs only [forall_eq, ↓slp, slb, ↓reduceIte, reduceCtorEq, jA, jB, jC, jD, jE, jF, jG, jH, jI, jJ, jK, tfCeRun4, c7, w0, gW, c8] | refine hX _ _ ?_; clear hX X | clear hX X; refine hX _ _ ?_; clear hX X | clear hX X; clear hX X; refine hX _ _ ?_; clear hX X | intro hlen; unfold maxLen at hlen | apply And.intro; focus (first | omega | assumption | (repeat' apply And.intro) <;> first | omega | assumption)))
    refine aIf ?_; simp -implicitDefEqProofs only [↓slp, slb, ↓reduceIte, reduceCtorEq, jA, jB, jC, jD, jE, jF, jG, jH, jI, jJ, jK]
    (repeat (first | refine aSeq fun X hX => ?_ | refine aBlk ?_ | refine aSkip ?_ | (first | refine aExit ?_ | refine aRet ?_); try simp only [slx, ↓reduceIte, Nat.reduceEqDiff, reduceCtorEq] | (first | refine aReg ?_ | refine aDrE ?_); simp -implicitDefEqProofs only [forall_eq, ↓slp, slb, ↓reduceIte, reduceCtorEq, jA, jB, jC, jD, jE, jF, jG, jH, jI, jJ, jK, tfCeRun4, hu] | refine hX _ _ ?_; clear hX X | clear hX X; refine hX _ _ ?_; clear hX X | clear hX X; clear hX X; refine hX _ _ ?_; clear hX X | intro hlen; unfold maxLen at hlen | apply And.intro; focus (first | omega | assumption | (repeat' apply And.intro) <;> first | omega | assumption)))
    exact leave_run h1.rs hc1 rfl ⟨6, s1, hnone (.inr (.inr ⟨hk0.1, h8⟩)), rfl, h1.rs, hc1⟩
  | true =>
  have h8 : e.kids.length = wantN e.kind.toNat := by simp at c8; omega
  simp -implicitDefEqProofs only [↓slp, slb, ↓reduceIte, reduceCtorEq, jA, jB, jC, jD, jE, jF, jG, jH, jI, jJ, jK, tfCeRun4, c7, w0]
  (repeat (first | refine aSeq fun X hX => ?_ | refine aBlk ?_ | refine aSkip ?_ | (first | refine aExit ?_ | refine aRet ?_); try simp only [slx, ↓reduceIte, Nat.reduceEqDiff, reduceCtorEq] | (first | refine aReg ?_ | refine aDrE ?_); simp -implicitDefEqProofs only [forall_eq, ↓slp, slb, ↓reduceIte, reduceCtorEq, jA, jB, jC, jD, jE, jF, jG, jH, jI, jJ, jK, tfCeRun4, c7, w0, gW, c8] | refine hX _ _ ?_; clear hX X | clear hX X; refine hX _ _ ?_; clear hX X | clear hX X; clear hX X; refine hX _ _ ?_; clear hX X | intro hlen; unfold maxLen at hlen | apply And.intro; focus (first | omega | assumption | (repeat' apply And.intro) <;> first | omega | assumption)))
  refine aIf ?_; simp -implicitDefEqProofs only [↓slp, slb, ↓reduceIte, reduceCtorEq, jA, jB, jC, jD, jE, jF, jG, jH, jI, jJ, jK]
  (repeat (first | refine aSeq fun X hX => ?_ | refine aBlk ?_ | refine aSkip ?_ | (first | refine aExit ?_ | refine aRet ?_); try simp only [slx, ↓reduceIte, Nat.reduceEqDiff, reduceCtorEq] | (first | refine aReg ?_ | refine aDrE ?_); simp -implicitDefEqProofs only [forall_eq, ↓slp, slb, ↓reduceIte, reduceCtorEq, jA, jB, jC, jD, jE, jF, jG, jH, jI, jJ, jK, tfCeRun4] | refine hX _ _ ?_; clear hX X | clear hX X; refine hX _ _ ?_; clear hX X | clear hX X; clear hX X; refine hX _ _ ?_; clear hX X | intro hlen; unfold maxLen at hlen | apply And.intro; focus (first | omega | assumption | (repeat' apply And.intro) <;> first | omega | assumption)))
  have hcase : e.kind = 0 ∨ e.kind = 1 ∨ e.kind = 2 ∨ e.kind = 3 ∨ e.kind = 4 ∨ e.kind = 5 ∨ e.kind = 6 := by omega
  have hE1 := hEV.symm
  rw [evalC_eq, CRn.bind_ok hs1] at hE1
  clear hEV
  rcases hcase with k0 | k0 | k0 | k0 | k0 | k0 | k0
  · (repeat (first | refine aSeq fun X hX => ?_ | refine aBlk ?_ | refine aSkip ?_ | (first | refine aExit ?_ | refine aRet ?_); try simp only [slx, ↓reduceIte, Nat.reduceEqDiff, reduceCtorEq] | (first | refine aReg ?_ | refine aDrE ?_ | refine aIf ?_); simp -implicitDefEqProofs only [forall_eq, ↓slp, slb, ↓reduceIte, reduceCtorEq, jA, jB, jC, jD, jE, jF, jG, jH, jI, jJ, jK, tfCeRun4, k0, Int.reduceBEq, hu] | refine hX _ _ ?_; clear hX X | clear hX X; refine hX _ _ ?_; clear hX X | clear hX X; clear hX X; refine hX _ _ ?_; clear hX X | intro hlen; unfold maxLen at hlen | apply And.intro; focus (first | omega | assumption | (repeat' apply And.intro) <;> first | omega | assumption)))
    exact leave_run h1.rs hc1 rfl ⟨6, s1, hnone (.inl k0), rfl, h1.rs, hc1⟩
  · rw [k0] at h8
    have hkids : e.kids = [] := List.length_eq_zero_iff.1 h8
    rw [if_pos k0, hkids] at hE1
    dsimp only at hE1
    (repeat (first | refine aSeq fun X hX => ?_ | refine aBlk ?_ | refine aSkip ?_ | (first | refine aExit ?_ | refine aRet ?_); try simp only [slx, ↓reduceIte, Nat.reduceEqDiff, reduceCtorEq] | (first | refine aReg ?_ | refine aDrE ?_ | refine aIf ?_); simp -implicitDefEqProofs only [forall_eq, ↓slp, slb, ↓reduceIte, reduceCtorEq, jA, jB, jC, jD, jE, jF, jG, jH, jI, jJ, jK, tfCeRun4, k0, Int.reduceBEq] | refine hX _ _ ?_; clear hX X | clear hX X; refine hX _ _ ?_; clear hX X | clear hX X; clear hX X; refine hX _ _ ?_; clear hX X | intro hlen; unfold maxLen at hlen | apply And.intro; focus (first | omega | assumption | (repeat' apply And.intro) <;> first | omega | assumption)))
    simp only [aPost, Try.results52, aRes_n, aRes_t, aRes_c, pack_one, pack_two]
    exact leave_run h1.rs hc1 rfl ⟨e.n, s1, hE1, rfl, CE.good_n hg, h1, hc1⟩
  · rw [k0] at h8
    have hkids : e.kids = [] := List.length_eq_zero_iff.1 h8
    rw [if_neg (by omega), if_pos k0, hkids] at hE1
    dsimp only at hE1
    (repeat (first | refine aSeq fun X hX => ?_ | refine aBlk ?_ | refine aSkip ?_ | (first | refine aExit ?_ | refine aRet ?_); try simp only [slx, ↓reduceIte, Nat.reduceEqDiff, reduceCtorEq] | (first | refine aReg ?_ | refine aDrE ?_ | refine aIf ?_); simp -implicitDefEqProofs only [forall_eq, ↓slp, slb, ↓reduceIte, reduceCtorEq, jA, jB, jC, jD, jE, jF, jG, jH, jI, jJ, jK, tfCeRun4, k0, Int.reduceBEq] | refine hX _ _ ?_; clear hX X | clear hX X; refine hX _ _ ?_; clear hX X | clear hX X; clear hX X; refine hX _ _ ?_; clear hX X | intro hlen; unfold maxLen at hlen | apply And.intro; focus (first | omega | assumption | (repeat' apply And.intro) <;> first | omega | assumption)))
    refine callP (localX hk h1 e.name) ?_ ?_
    · rintro v m' ⟨hn, rfl, rfl⟩
      rw [hn] at hE1
      exact leave_run h1.rs hc1 rfl ⟨3, s1, hE1, rfl, h1.rs, hc1⟩
    rintro v m' ⟨x, hx, rfl, rfl⟩
    rw [hx] at hE1
    simp -implicitDefEqProofs only [↓slp, slb, ↓reduceIte, reduceCtorEq, jA, jB, jC, jD, jE, jF, jG, jH, jI, jJ, jK, tfCeRun4]
    (repeat (first | refine aSeq fun X hX => ?_ | refine aBlk ?_ | refine aSkip ?_ | (first | refine aExit ?_ | refine aRet ?_); try simp only [slx, ↓reduceIte, Nat.reduceEqDiff, reduceCtorEq] | (first | refine aReg ?_ | refine aDrE ?_ | refine aIf ?_); simp -implicitDefEqProofs only [forall_eq, ↓slp, slb, ↓reduceIte, reduceCtorEq, jA, jB, jC, jD, jE, jF, jG, jH, jI, jJ, jK, tfCeRun4] | refine hX _ _ ?_; clear hX X | clear hX X; refine hX _ _ ?_; clear hX X | clear hX X; clear hX X; refine hX _ _ ?_; clear hX X | intro hlen; unfold maxLen at hlen | apply And.intro; focus (first | omega | assumption | (repeat' apply And.intro) <;> first | omega | assumption)))
    simp only [aPost, Try.results52, aRes_n, aRes_t, aRes_c, pack_one, pack_two]
    exact leave_run h1.rs hc1 rfl ⟨x, s1, hE1, rfl, env_find32 h1.e32 hx, h1, hc1⟩
  · rw [k0] at h8
    have hkids : e.kids = [] := List.length_eq_zero_iff.1 h8
    rw [if_neg (by omega), if_neg (by omega), if_pos k0, hkids] at hE1
    dsimp only at hE1
    have fm := h1.rs.mid
    have gf : ∀ cc, (m1.upd c.p.tid cc).get c.fid = some c.frame := fun cc => (get_upd_ne hk.f.2.2.1).trans f1
    have gm : ∀ cc, (m1.upd c.p.tid cc).get c.p.mid = some _ := fun cc => (get_upd_ne hk.p.n2).trans fm
    (repeat (first | refine aSeq fun X hX => ?_ | refine aBlk ?_ | refine aSkip ?_ | (first | refine aExit ?_ | refine aRet ?_); try simp only [slx, ↓reduceIte, Nat.reduceEqDiff, reduceCtorEq] | (first | refine aReg ?_ | refine aIf ?_); simp -implicitDefEqProofs only [forall_eq, ↓slp, slb, ↓reduceIte, reduceCtorEq, jA, jB, jC, jD, jE, jF, jG, jH, jI, jJ, jK, tfCeRun4, k0, Int.reduceBEq] | refine hX _ _ ?_; clear hX X | clear hX X; refine hX _ _ ?_; clear hX X | clear hX X; clear hX X; refine hX _ _ ?_; clear hX X | intro hlen; unfold maxLen at hlen | apply And.intro; focus (first | omega | assumption | (repeat' apply And.intro) <;> first | omega | assumption)))
    refine aDrwZ 10 (isT c.p.tid m1) (by simp) rfl rfl (by kernel_rfl) (by kernel_rfl) (isT_self h1.rs.tch) ?_
    simp only [List.take_succ_cons, List.take_zero, List.drop_succ_cons, List.drop_zero, List.getElem_cons_succ, List.getElem_cons_zero]
    simp -implicitDefEqProofs only [↓slp, slb, ↓reduceIte, reduceCtorEq, jA, jB, jC, jD, jE, jF, jG, jH, jI, jJ, jK, tfCeRun4, isT_all, f1, fm, gf, gm]
    refine callP (cellX hk h1 e.name) ?_ ?_
    · rintro v m' ⟨how, s', hr, rfl, hrs, hc⟩
      rw [CRn.bind_bad hr] at hE1
      exact leave_run hrs (hc1.trans hc) rfl ⟨how, s', hE1, rfl, hrs, hc1.trans hc⟩
    rintro v m2 ⟨k, s2, rfl, hx, hkl, hmem, rfl, h2, hc2⟩
    rw [CRn.bind_ok hx, hmem] at hE1
    have hc2' : Chg c.p.ids m1 (m1.upd c.p.tid (tchB s2.tch)) := hc2.mono (fun k h => by simp at h; subst h; simp [RP.ids])
    have gmem := h2.rs.mem
    rw [hmem] at gmem
    have gx : (memB s1.mem).getD k .junk = pJ s1.mem[k] := by simp [hkl]
    have gmu : ∀ cc, (m1.upd c.p.tid cc).get c.p.memid = some (memB s1.mem) := fun cc => (get_upd_ne hk.p.n4).trans h1.rs.mem
    have e0 : 0 + k * 1 = k := by omega
    have gx2 : s1.mem.getD k 0 = s1.mem[k] := by simp [hkl]
    rw [gx2] at hE1
    refine ⟨⟨_, rfl⟩, ?_⟩
    have hlm : (memB s1.mem).length = s1.mem.length := by simp
    simp -implicitDefEqProofs only [↓slp, slb, ↓reduceIte, reduceCtorEq, jA, jB, jC, jD, jE, jF, jG, jH, jI, jJ, jK, tfCeRun4, isT_all, gmem, gmu, e0, gx, hlm]
    (repeat (first | (intro hlen; unfold maxLen at hlen) | (apply And.intro; (focus (first | omega | assumption | trivial | (repeat' apply And.intro) <;> first | omega | assumption | trivial)))))
    (repeat (first | refine aSeq fun X hX => ?_ | refine aBlk ?_ | refine aSkip ?_ | (first | refine aExit ?_ | refine aRet ?_); try simp only [slx, ↓reduceIte, Nat.reduceEqDiff, reduceCtorEq] | (first | refine aReg ?_ | refine aDrE ?_ | refine aIf ?_); simp -implicitDefEqProofs only [forall_eq, ↓slp, slb, ↓reduceIte, reduceCtorEq, jA, jB, jC, jD, jE, jF, jG, jH, jI, jJ, jK, tfCeRun4] | refine hX _ _ ?_; clear hX X | clear hX X; refine hX _ _ ?_; clear hX X | clear hX X; clear hX X; refine hX _ _ ?_; clear hX X | intro hlen; unfold maxLen at hlen | apply And.intro; focus (first | omega | assumption | (repeat' apply And.intro) <;> first | omega | assumption)))
    simp only [aPost, Try.results52, aRes_n, aRes_t, aRes_c, pack_one, pack_two]
    exact leave_run h2.rs (hc1.trans hc2') rfl ⟨s1.mem[k], s2, hE1, rfl, h1.rs.m32 _ (List.getElem_mem hkl), h2, hc1.trans hc2'⟩
  · rw [k0] at h8
    obtain ⟨a, hkids⟩ := List.length_eq_one_iff.1 h8
    have iA : ExprC a := by have := ih 0 (by rw [hkids]; simp); simpa [hkids] using this
    rw [if_neg (by omega), if_neg (by omega), if_neg (by omega), if_pos k0, hkids] at hE1
    dsimp only at hE1
    (repeat (first | refine aSeq fun X hX => ?_ | refine aBlk ?_ | refine aSkip ?_ | (first | refine aExit ?_ | refine aRet ?_); try simp only [slx, ↓reduceIte, Nat.reduceEqDiff, reduceCtorEq] | (first | refine aReg ?_ | refine aIf ?_); simp -implicitDefEqProofs only [forall_eq, ↓slp, slb, ↓reduceIte, reduceCtorEq, jA, jB, jC, jD, jE, jF, jG, jH, jI, jJ, jK, tfCeRun4, k0, Int.reduceBEq] | refine hX _ _ ?_; clear hX X | clear hX X; refine hX _ _ ?_; clear hX X | clear hX X; clear hX X; refine hX _ _ ?_; clear hX X | intro hlen; unfold maxLen at hlen | apply And.intro; focus (first | omega | assumption | (repeat' apply And.intro) <;> first | omega | assumption)))
    refine aDrwZ 7 (fun _ => True) (by simp) rfl rfl (by kernel_rfl) (by kernel_rfl) trivial ?_
    simp only [List.take_succ_cons, List.take_zero, List.drop_succ_cons, List.drop_zero, List.getElem_cons_succ, List.getElem_cons_zero]
    simp -implicitDefEqProofs only [↓slp, slb, ↓reduceIte, reduceCtorEq, jA, jB, jC, jD, jE, jF, jG, jH, jI, jJ, jK, tfCeRun4, hkids]
    refine callP (iA c s1 env m1 hk h1) ?_ ?_
    · rintro v m' ⟨how, s', hr, rfl, hrs, hc⟩
      rw [CRn.bind_bad hr] at hE1
      exact leave_run hrs (hc1.trans hc) rfl ⟨how, s', hE1, rfl, hrs, hc1.trans hc⟩
    rintro v m2 ⟨x, s2, hx, rfl, hx32, h2, hc2⟩
    rw [CRn.bind_ok hx] at hE1
    refine ⟨trivial, ?_⟩
    simp -implicitDefEqProofs only [↓slp, slb, ↓reduceIte, reduceCtorEq, jA, jB, jC, jD, jE, jF, jG, jH, jI, jJ, jK, tfCeRun4]
    refine callE (numUn_any e.op x hx32 m2) ?_
    simp -implicitDefEqProofs only [↓slp, slb, ↓reduceIte, reduceCtorEq, jA, jB, jC, jD, jE, jF, jG, jH, jI, jJ, jK, tfCeRun4]
    (repeat (first | refine aSeq fun X hX => ?_ | refine aBlk ?_ | refine aSkip ?_ | (first | refine aExit ?_ | refine aRet ?_); try simp only [slx, ↓reduceIte, Nat.reduceEqDiff, reduceCtorEq] | (first | refine aReg ?_ | refine aDrE ?_ | refine aIf ?_); simp -implicitDefEqProofs only [forall_eq, ↓slp, slb, ↓reduceIte, reduceCtorEq, jA, jB, jC, jD, jE, jF, jG, jH, jI, jJ, jK, tfCeRun4] | refine hX _ _ ?_; clear hX X | clear hX X; refine hX _ _ ?_; clear hX X | clear hX X; clear hX X; refine hX _ _ ?_; clear hX X | intro hlen; unfold maxLen at hlen | apply And.intro; focus (first | omega | assumption | (repeat' apply And.intro) <;> first | omega | assumption)))
    simp only [aPost, Try.results52, aRes_n, aRes_t, aRes_c, pack_one, pack_two]
    exact leave_run h2.rs (hc1.trans hc2) rfl ⟨unN e.op x, s2, hE1, rfl, unN_bd _ _, h2, hc1.trans hc2⟩
  · rw [k0] at h8
    obtain ⟨a, b, hkids⟩ := len2 h8
    have iA : ExprC a := by have := ih 0 (by rw [hkids]; simp); simpa [hkids] using this
    have iB : ExprC b := by have := ih 1 (by rw [hkids]; simp); simpa [hkids] using this
    rw [if_neg (by omega), if_neg (by omega), if_neg (by omega), if_neg (by omega), if_pos k0, hkids] at hE1
    dsimp only at hE1
    (repeat (first | refine aSeq fun X hX => ?_ | refine aBlk ?_ | refine aSkip ?_ | (first | refine aExit ?_ | refine aRet ?_); try simp only [slx, ↓reduceIte, Nat.reduceEqDiff, reduceCtorEq] | (first | refine aReg ?_ | refine aDrE ?_ | refine aIf ?_); simp -implicitDefEqProofs only [forall_eq, ↓slp, slb, ↓reduceIte, reduceCtorEq, jA, jB, jC, jD, jE, jF, jG, jH, jI, jJ, jK, tfCeRun4, k0, Int.reduceBEq, hkids] | refine hX _ _ ?_; clear hX X | clear hX X; refine hX _ _ ?_; clear hX X | clear hX X; clear hX X; refine hX _ _ ?_; clear hX X | intro hlen; unfold maxLen at hlen | apply And.intro; focus (first | omega | assumption | (repeat' apply And.intro) <;> first | omega | assumption)))
    refine callP (iA c s1 env m1 hk h1) ?_ ?_
    · rintro v m' ⟨how, s', hr, rfl, hrs, hc⟩
      rw [CRn.bind_bad hr] at hE1
      exact leave_run hrs (hc1.trans hc) rfl ⟨how, s', hE1, rfl, hrs, hc1.trans hc⟩
    rintro v m2 ⟨x, s2, hx, rfl, hx32, h2, hc2⟩
    rw [CRn.bind_ok hx] at hE1
    simp -implicitDefEqProofs only [↓slp, slb, ↓reduceIte, reduceCtorEq, jA, jB, jC, jD, jE, jF, jG, jH, jI, jJ, jK, tfCeRun4]
    (repeat (first | refine aSeq fun X hX => ?_ | refine aBlk ?_ | refine aSkip ?_ | (first | refine aExit ?_ | refine aRet ?_); try simp only [slx, ↓reduceIte, Nat.reduceEqDiff, reduceCtorEq] | (first | refine aReg ?_ | refine aIf ?_); simp -implicitDefEqProofs only [forall_eq, ↓slp, slb, ↓reduceIte, reduceCtorEq, jA, jB, jC, jD, jE, jF, jG, jH, jI, jJ, jK, tfCeRun4] | refine hX _ _ ?_; clear hX X | clear hX X; refine hX _ _ ?_; clear hX X | clear hX X; clear hX X; refine hX _ _ ?_; clear hX X | intro hlen; unfold maxLen at hlen | apply And.intro; focus (first | omega | assumption | (repeat' apply And.intro) <;> first | omega | assumption)))
    refine aDrwZ 8 (fun _ => True) (by simp) rfl rfl (by kernel_rfl) (by kernel_rfl) trivial ?_
    simp only [List.take_succ_cons, List.take_zero, List.drop_succ_cons, List.drop_zero, List.getElem_cons_succ, List.getElem_cons_zero]
    simp -implicitDefEqProofs only [↓slp, slb, ↓reduceIte, reduceCtorEq, jA, jB, jC, jD, jE, jF, jG, jH, jI, jJ, jK, tfCeRun4, hkids]
    refine callP (iB c s2 env m2 hk h2) ?_ ?_
    · rintro v m' ⟨how, s', hr, rfl, hrs, hc⟩
      rw [CRn.bind_bad hr] at hE1
      exact leave_run hrs ((hc1.trans hc2).trans hc) rfl ⟨how, s', hE1, rfl, hrs, (hc1.trans hc2).trans hc⟩
    rintro v m3 ⟨y, s3, hy, rfl, hy32, h3, hc3⟩
    rw [CRn.bind_ok hy] at hE1
    refine ⟨trivial, ?_⟩
    simp -implicitDefEqProofs only [↓slp, slb, ↓reduceIte, reduceCtorEq, jA, jB, jC, jD, jE, jF, jG, jH, jI, jJ, jK, tfCeRun4]
    refine callE (numBin_any e.op x y hx32 hy32 m3) ?_
    simp -implicitDefEqProofs only [↓slp, slb, ↓reduceIte, reduceCtorEq, jA, jB, jC, jD, jE, jF, jG, jH, jI, jJ, jK, tfCeRun4]
    (repeat (first | refine aSeq fun X hX => ?_ | refine aBlk ?_ | refine aSkip ?_ | (first | refine aExit ?_ | refine aRet ?_); try simp only [slx, ↓reduceIte, Nat.reduceEqDiff, reduceCtorEq] | (first | refine aReg ?_ | refine aDrE ?_ | refine aIf ?_); simp -implicitDefEqProofs only [forall_eq, ↓slp, slb, ↓reduceIte, reduceCtorEq, jA, jB, jC, jD, jE, jF, jG, jH, jI, jJ, jK, tfCeRun4] | refine hX _ _ ?_; clear hX X | clear hX X; refine hX _ _ ?_; clear hX X | clear hX X; clear hX X; refine hX _ _ ?_; clear hX X | intro hlen; unfold maxLen at hlen | apply And.intro; focus (first | omega | assumption | (repeat' apply And.intro) <;> first | omega | assumption)))
    simp only [aPost, Try.results52, aRes_n, aRes_t, aRes_c, pack_one, pack_two]
    exact leave_run h3.rs ((hc1.trans hc2).trans hc3) rfl ⟨binN e.op x y, s3, hE1, rfl, binN_bd _ _ _ hx32, h3, (hc1.trans hc2).trans hc3⟩
  · rw [k0] at h8
    obtain ⟨a, b, d, hkids⟩ := len3 h8
    have iA : ExprC a := by have := ih 0 (by rw [hkids]; simp); simpa [hkids] using this
    have iB : ExprC b := by have := ih 1 (by rw [hkids]; simp); simpa [hkids] using this
    have iD : ExprC d := by have := ih 2 (by rw [hkids]; simp); simpa [hkids] using this
    rw [if_neg (by omega), if_neg (by omega), if_neg (by omega), if_neg (by omega), if_neg (by omega), if_pos k0, hkids] at hE1
    dsimp only at hE1
    (repeat (first | refine aSeq fun X hX => ?_ | refine aBlk ?_ | refine aSkip ?_ | (first | refine aExit ?_ | refine aRet ?_); try simp only [slx, ↓reduceIte, Nat.reduceEqDiff, reduceCtorEq] | (first | refine aReg ?_ | refine aDrE ?_ | refine aIf ?_); simp -implicitDefEqProofs only [forall_eq, ↓slp, slb, ↓reduceIte, reduceCtorEq, jA, jB, jC, jD, jE, jF, jG, jH, jI, jJ, jK, tfCeRun4, k0, Int.reduceBEq, hkids] | refine hX _ _ ?_; clear hX X | clear hX X; refine hX _ _ ?_; clear hX X | clear hX X; clear hX X; refine hX _ _ ?_; clear hX X | intro hlen; unfold maxLen at hlen | apply And.intro; focus (first | omega | assumption | (repeat' apply And.intro) <;> first | omega | assumption)))
    refine callP (iA c s1 env m1 hk h1) ?_ ?_
    · rintro v m' ⟨how, s', hr, rfl, hrs, hc⟩
      rw [CRn.bind_bad hr] at hE1
      exact leave_run hrs (hc1.trans hc) rfl ⟨how, s', hE1, rfl, hrs, hc1.trans hc⟩
    rintro v m2 ⟨x, s2, hx, rfl, hx32, h2, hc2⟩
    rw [CRn.bind_ok hx] at hE1
    cases cx : (x == 0) with
    | true =>
      have hx0 : x = 0 := by simpa using cx
      rw [if_neg (by omega)] at hE1
      simp -implicitDefEqProofs only [↓slp, slb, ↓reduceIte, reduceCtorEq, jA, jB, jC, jD, jE, jF, jG, jH, jI, jJ, jK, tfCeRun4, cx]
      (repeat (first | refine aSeq fun X hX => ?_ | refine aBlk ?_ | refine aSkip ?_ | (first | refine aExit ?_ | refine aRet ?_); try simp only [slx, ↓reduceIte, Nat.reduceEqDiff, reduceCtorEq] | (first | refine aReg ?_ | refine aDrE ?_ | refine aIf ?_); simp -implicitDefEqProofs only [forall_eq, ↓slp, slb, ↓reduceIte, reduceCtorEq, jA, jB, jC, jD, jE, jF, jG, jH, jI, jJ, jK, tfCeRun4, hkids, cx] | refine hX _ _ ?_; clear hX X | clear hX X; refine hX _ _ ?_; clear hX X | clear hX X; clear hX X; refine hX _ _ ?_; clear hX X | intro hlen; unfold maxLen at hlen | apply And.intro; focus (first | omega | assumption | (repeat' apply And.intro) <;> first | omega | assumption)))
      refine callP (iD c s2 env m2 hk h2) ?_ ?_
      · rintro v m' ⟨how, s', hr, rfl, hrs, hc⟩
        rw [hr] at hE1
        exact leave_run hrs ((hc1.trans hc2).trans hc) rfl ⟨how, s', hE1, rfl, hrs, (hc1.trans hc2).trans hc⟩
      rintro v m3 ⟨y, s3, hy, rfl, hy32, h3, hc3⟩
      rw [hy] at hE1
      simp -implicitDefEqProofs only [↓slp, slb, ↓reduceIte, reduceCtorEq, jA, jB, jC, jD, jE, jF, jG, jH, jI, jJ, jK, tfCeRun4]
      (repeat (first | refine aSeq fun X hX => ?_ | refine aBlk ?_ | refine aSkip ?_ | (first | refine aExit ?_ | refine aRet ?_); try simp only [slx, ↓reduceIte, Nat.reduceEqDiff, reduceCtorEq] | (first | refine aReg ?_ | refine aDrE ?_ | refine aIf ?_); simp -implicitDefEqProofs only [forall_eq, ↓slp, slb, ↓reduceIte, reduceCtorEq, jA, jB, jC, jD, jE, jF, jG, jH, jI, jJ, jK, tfCeRun4] | refine hX _ _ ?_; clear hX X | clear hX X; refine hX _ _ ?_; clear hX X | clear hX X; clear hX X; refine hX _ _ ?_; clear hX X | intro hlen; unfold maxLen at hlen | apply And.intro; focus (first | omega | assumption | (repeat' apply And.intro) <;> first | omega | assumption)))
      simp only [aPost, Try.results52, aRes_n, aRes_t, aRes_c, pack_one, pack_two]
      exact leave_run h3.rs ((hc1.trans hc2).trans hc3) rfl ⟨y, s3, hE1, rfl, hy32, h3, (hc1.trans hc2).trans hc3⟩
    | false =>
      have hx0 : x ≠ 0 := by simpa using cx
      rw [if_pos hx0] at hE1
      simp -implicitDefEqProofs only [↓slp, slb, ↓reduceIte, reduceCtorEq, jA, jB, jC, jD, jE, jF, jG, jH, jI, jJ, jK, tfCeRun4, cx]
      (repeat (first | refine aSeq fun X hX => ?_ | refine aBlk ?_ | refine aSkip ?_ | (first | refine aExit ?_ | refine aRet ?_); try simp only [slx, ↓reduceIte, Nat.reduceEqDiff, reduceCtorEq] | (first | refine aReg ?_ | refine aDrE ?_ | refine aIf ?_); simp -implicitDefEqProofs only [forall_eq, ↓slp, slb, ↓reduceIte, reduceCtorEq, jA, jB, jC, jD, jE, jF, jG, jH, jI, jJ, jK, tfCeRun4, hkids, cx] | refine hX _ _ ?_; clear hX X | clear hX X; refine hX _ _ ?_; clear hX X | clear hX X; clear hX X; refine hX _ _ ?_; clear hX X | intro hlen; unfold maxLen at hlen | apply And.intro; focus (first | omega | assumption | (repeat' apply And.intro) <;> first | omega | assumption)))
      refine callP (iB c s2 env m2 hk h2) ?_ ?_
      · rintro v m' ⟨how, s', hr, rfl, hrs, hc⟩
        rw [hr] at hE1
        exact leave_run hrs ((hc1.trans hc2).trans hc) rfl ⟨how, s', hE1, rfl, hrs, (hc1.trans hc2).trans hc⟩
      rintro v m3 ⟨y, s3, hy, rfl, hy32, h3, hc3⟩
      rw [hy] at hE1
      simp -implicitDefEqProofs only [↓slp, slb, ↓reduceIte, reduceCtorEq, jA, jB, jC, jD, jE, jF, jG, jH, jI, jJ, jK, tfCeRun4]
      (repeat (first | refine aSeq fun X hX => ?_ | refine aBlk ?_ | refine aSkip ?_ | (first | refine aExit ?_ | refine aRet ?_); try simp only [slx, ↓reduceIte, Nat.reduceEqDiff, reduceCtorEq] | (first | refine aReg ?_ | refine aDrE ?_ | refine aIf ?_); simp -implicitDefEqProofs only [forall_eq, ↓slp, slb, ↓reduceIte, reduceCtorEq, jA, jB, jC, jD, jE, jF, jG, jH, jI, jJ, jK, tfCeRun4] | refine hX _ _ ?_; clear hX X | clear hX X; refine hX _ _ ?_; clear hX X | clear hX X; clear hX X; refine hX _ _ ?_; clear hX X | intro hlen; unfold maxLen at hlen | apply And.intro; focus (first | omega | assumption | (repeat' apply And.intro) <;> first | omega | assumption)))
      simp only [aPost, Try.results52, aRes_n, aRes_t, aRes_c, pack_one, pack_two]
      exact leave_run h3.rs ((hc1.trans hc2).trans hc3) rfl ⟨y, s3, hE1, rfl, hy32, h3, (hc1.trans hc2).trans hc3⟩
theorem expr_all (e : CE) : e.good → ExprC e :=
  CE.ind (motive := fun e => e.good → ExprC e) (fun e ih hg => exprS_run e (fun k hk => ih k hk (CE.good_kids hg _ (List.getElem_mem hk))) hg) e
end Go.Proofs.Ytepjjgnkhcjpcaa

/-
  The place of a function.
-/
set_option linter.unusedVariables false
set_option linter.unusedSimpArgs false
namespace Go.Proofs.Ytepjjgnkhcjpcaa
open Nat renaming reduceEqDiff → jA, reduceAdd → jB, reduceMul → jC, reduceLT → jD, reduceLeDiff → jE, reduceBEq → jF, reduceBNe → jG
open Int renaming reduceLE → jH, reduceLT → jI, reduceToNat → jJ, reduceEq → jK
open Go
-- EXX: Pa.cells_pv, Sr.cells_pv, CFn.cells_pv, CFn.cs
set_option maxRecDepth 20000
-- TNAMES: int; string; bool; []clite.Struct; clite.Struct; []clite.Part; clite.Part; []clite.Func; clite.Func; clite.Prog
set_option linter.defProp false
def tfCeFn := And.intro @tfA (And.intro @Ex.settle_pv (And.intro @Ex.pure_pv (And.intro @Ex.cells_pv (And.intro @Ex.cs.eq_1 (And.intro @On.pv.eq_1 (And.intro @Ty.pv.eq_1 (And.intro @Va.settle_pv (And.intro @Va.pure_pv (And.intro @Va.cells_pv (And.intro @Va.cs.eq_1 (And.intro @Pa.cells_pv (And.intro @Sr.cells_pv (And.intro @CFn.cells_pv @CFn.cs.eq_1)))))))))))))

set_option maxRecDepth 20000 in
set_option maxHeartbeats 400000 in
theorem idxCFn_any (o : Own) (l : List CFn) (p : CFn → Bool) (g : FuncId) (c : PV) (m : M) (hf : ∀ k (hk : k < l.length) (m : M), ACalls Try.prog g [CFn.pv l[k], c] m (fun v m' => v = pB (p l[k]) ∧ m' = m)) :
    ACalls Try.prog 31 [.sl o (l.map (CFn.pv)), .fn (.func g) [] [c]] m (fun v m' => v = pI (idxF p l 0) ∧ m' = m) := by
  refine ACalls.enter (mu := []) ok_mix Try.func31 rfl (by kernel_rfl) (by kernel_rfl) (by simp only [List.length_cons, List.length_nil, Try.ntmps31]; omega) ?_
  (repeat (first | refine aSeq fun X hX => ?_ | refine aBlk ?_ | refine aSkip ?_ | (first | refine aExit ?_ | refine aRet ?_); try simp only [slx, ↓reduceIte, Nat.reduceEqDiff, reduceCtorEq] | (first | refine aReg ?_ | refine aDrE ?_); simp -implicitDefEqProofs only [forall_eq, ↓slp, slb, ↓reduceIte, reduceCtorEq, jA, jB, jC, jD, jE, jF, jG, jH, jI, jJ, jK, tfCeFn] | refine hX _ _ ?_; clear hX X | clear hX X; refine hX _ _ ?_; clear hX X | clear hX X; clear hX X; refine hX _ _ ?_; clear hX X | intro hlen; unfold maxLen at hlen | apply And.intro; focus (first | omega | assumption | (repeat' apply And.intro) <;> first | omega | assumption)))
  obtain ⟨I, hI⟩ : ∃ I : F → M → Prop, ∀ f m', I f m' = (∃ k : Nat, k ≤ l.length ∧ f 0 = .sl o (l.map (CFn.pv)) ∧ f 1 = .fn (.func g) [] [c] ∧ f 7 = pI l.length ∧ f 8 = pI k ∧ idxF p l 0 = idxF p (l.drop k) k ∧ m' = m) := ⟨_, fun _ _ => rfl⟩
  refine aLoop I (fun f m => l.length - numOf (f 8)) ?_ ?_
  · rw [hI]; exact ⟨0, by omega, rfl, rfl, rfl, rfl, rfl, rfl⟩
  intro f m' hrel
  rw [hI] at hrel
  obtain ⟨k, hk, h0, h1, h7, h8, hs, rfl⟩ := hrel
  (repeat (first | refine aSeq fun X hX => ?_ | refine aBlk ?_ | refine aSkip ?_ | (first | refine aExit ?_ | refine aRet ?_); try simp only [slx, ↓reduceIte, Nat.reduceEqDiff, reduceCtorEq] | (first | refine aReg ?_ | refine aDrE ?_); simp -implicitDefEqProofs only [forall_eq, ↓slp, slb, ↓reduceIte, reduceCtorEq, jA, jB, jC, jD, jE, jF, jG, jH, jI, jJ, jK, tfCeFn, h0, h1, h7, h8, pI] | refine hX _ _ ?_; clear hX X | clear hX X; refine hX _ _ ?_; clear hX X | clear hX X; clear hX X; refine hX _ _ ?_; clear hX X | intro hlen; unfold maxLen at hlen | apply And.intro; focus (first | omega | assumption | (repeat' apply And.intro) <;> first | omega | assumption)))
  refine aIf ?_; simp -implicitDefEqProofs only [↓slp, slb, ↓reduceIte, reduceCtorEq, jA, jB, jC, jD, jE, jF, jG, jH, jI, jJ, jK]; refine ⟨fun hb => ?_, fun hb => ?_⟩
  · have hlt : k < l.length := by simpa using hb
    have g0 := getD_map (CFn.pv) l k hlt
    have hi : IntKind.i64.wrap ((k : Int) + 1) = ((k + 1 : Nat) : Int) := by rw [wrap64 (by omega)]; omega
    have hd := idxF_drop (p := p) hlt
    (repeat (first | refine aSeq fun X hX => ?_ | refine aBlk ?_ | refine aSkip ?_ | (first | refine aExit ?_ | refine aRet ?_); try simp only [slx, ↓reduceIte, Nat.reduceEqDiff, reduceCtorEq] | (first | refine aReg ?_ | refine aDrE ?_); simp -implicitDefEqProofs only [forall_eq, ↓slp, slb, ↓reduceIte, reduceCtorEq, jA, jB, jC, jD, jE, jF, jG, jH, jI, jJ, jK, tfCeFn, h0, h1, h7, h8, pI, g0] | refine hX _ _ ?_; clear hX X | clear hX X; refine hX _ _ ?_; clear hX X | clear hX X; clear hX X; refine hX _ _ ?_; clear hX X | intro hlen; unfold maxLen at hlen | apply And.intro; focus (first | omega | assumption | (repeat' apply And.intro) <;> first | omega | assumption)))
    refine callE (hf k hlt _) ?_
    simp -implicitDefEqProofs only [↓slp, slb, ↓reduceIte, reduceCtorEq, jA, jB, jC, jD, jE, jF, jG, jH, jI, jJ, jK, tfCeFn, h0, h1, h7, h8, pI, pB]
    cases c1 : p l[k] with
    | true =>
      (repeat (first | refine aSeq fun X hX => ?_ | refine aBlk ?_ | refine aSkip ?_ | (first | refine aExit ?_ | refine aRet ?_); try simp only [slx, ↓reduceIte, Nat.reduceEqDiff, reduceCtorEq] | (first | refine aReg ?_ | refine aDrE ?_); simp -implicitDefEqProofs only [forall_eq, ↓slp, slb, ↓reduceIte, reduceCtorEq, jA, jB, jC, jD, jE, jF, jG, jH, jI, jJ, jK, tfCeFn, h0, h1, h7, h8, pI, g0, c1] | refine hX _ _ ?_; clear hX X | clear hX X; refine hX _ _ ?_; clear hX X | clear hX X; clear hX X; refine hX _ _ ?_; clear hX X | intro hlen; unfold maxLen at hlen | apply And.intro; focus (first | omega | assumption | (repeat' apply And.intro) <;> first | omega | assumption)))
      refine aIf ?_; simp -implicitDefEqProofs only [↓slp, slb, ↓reduceIte, reduceCtorEq, jA, jB, jC, jD, jE, jF, jG, jH, jI, jJ, jK, c1]
      (repeat (first | refine aSeq fun X hX => ?_ | refine aBlk ?_ | refine aSkip ?_ | (first | refine aExit ?_ | refine aRet ?_); try simp only [slx, ↓reduceIte, Nat.reduceEqDiff, reduceCtorEq] | (first | refine aReg ?_ | refine aDrE ?_); simp -implicitDefEqProofs only [forall_eq, ↓slp, slb, ↓reduceIte, reduceCtorEq, jA, jB, jC, jD, jE, jF, jG, jH, jI, jJ, jK, tfCeFn] | refine hX _ _ ?_; clear hX X | clear hX X; refine hX _ _ ?_; clear hX X | clear hX X; clear hX X; refine hX _ _ ?_; clear hX X | intro hlen; unfold maxLen at hlen | apply And.intro; focus (first | omega | assumption | (repeat' apply And.intro) <;> first | omega | assumption)))
      simp only [aPost, Try.results31, aRes_n, aRes_t, aRes_c, pack_one, pack_two]
      refine leave_same rfl ⟨?_, rfl⟩
      have hv : idxF p l 0 = (k : Int) := by rw [hs, hd]; simp [c1]
      rw [hv]; rfl
    | false =>
      (repeat (first | refine aSeq fun X hX => ?_ | refine aBlk ?_ | refine aSkip ?_ | (first | refine aExit ?_ | refine aRet ?_); try simp only [slx, ↓reduceIte, Nat.reduceEqDiff, reduceCtorEq] | (first | refine aReg ?_ | refine aDrE ?_); simp -implicitDefEqProofs only [forall_eq, ↓slp, slb, ↓reduceIte, reduceCtorEq, jA, jB, jC, jD, jE, jF, jG, jH, jI, jJ, jK, tfCeFn, h0, h1, h7, h8, pI, g0, c1] | refine hX _ _ ?_; clear hX X | clear hX X; refine hX _ _ ?_; clear hX X | clear hX X; clear hX X; refine hX _ _ ?_; clear hX X | intro hlen; unfold maxLen at hlen | apply And.intro; focus (first | omega | assumption | (repeat' apply And.intro) <;> first | omega | assumption)))
      refine aIf ?_; simp -implicitDefEqProofs only [↓slp, slb, ↓reduceIte, reduceCtorEq, jA, jB, jC, jD, jE, jF, jG, jH, jI, jJ, jK, c1]
      (repeat (first | refine aSeq fun X hX => ?_ | refine aBlk ?_ | refine aSkip ?_ | (first | refine aExit ?_ | refine aRet ?_); try simp only [slx, ↓reduceIte, Nat.reduceEqDiff, reduceCtorEq] | (first | refine aReg ?_ | refine aDrE ?_); simp -implicitDefEqProofs only [forall_eq, ↓slp, slb, ↓reduceIte, reduceCtorEq, jA, jB, jC, jD, jE, jF, jG, jH, jI, jJ, jK, tfCeFn, h0, h1, h7, h8, pI, hi] | refine hX _ _ ?_; clear hX X | clear hX X; refine hX _ _ ?_; clear hX X | clear hX X; clear hX X; refine hX _ _ ?_; clear hX X | intro hlen; unfold maxLen at hlen | apply And.intro; focus (first | omega | assumption | (repeat' apply And.intro) <;> first | omega | assumption)))
      rw [hI]
      refine ⟨⟨k + 1, hlt, h0, h1, h7, rfl, by rw [hs, hd]; simp [c1], rfl⟩, ?_⟩
      first | omega | (simp only [↓slp, slb, ↓reduceIte, reduceCtorEq, jA, jB, jC, jD, jE, jF, jG, jH, jI, jJ, jK, h8, pI]; omega)
  · have hlt : k = l.length := by simp at hb; omega
    subst hlt
    (repeat (first | refine aSeq fun X hX => ?_ | refine aBlk ?_ | refine aSkip ?_ | (first | refine aExit ?_ | refine aRet ?_); try simp only [slx, ↓reduceIte, Nat.reduceEqDiff, reduceCtorEq] | (first | refine aReg ?_ | refine aDrE ?_); simp -implicitDefEqProofs only [forall_eq, ↓slp, slb, ↓reduceIte, reduceCtorEq, jA, jB, jC, jD, jE, jF, jG, jH, jI, jJ, jK, tfCeFn] | refine hX _ _ ?_; clear hX X | clear hX X; refine hX _ _ ?_; clear hX X | clear hX X; clear hX X; refine hX _ _ ?_; clear hX X | intro hlen; unfold maxLen at hlen | apply And.intro; focus (first | omega | assumption | (repeat' apply And.intro) <;> first | omega | assumption)))
    simp only [aPost, Try.results31, aRes_n, aRes_t, aRes_c, pack_one, pack_two]
    refine leave_same rfl ⟨?_, rfl⟩
    have hv : idxF p l 0 = -1 := by rw [hs]; simp [idxF]
    rw [hv]; rfl

def isFn (name : Str) (f : CFn) : Bool := f.name.toList == name.toList
theorem findF_eq (fns : List CFn) (name : Str) : findF fns name = idxF (isFn name) fns 0 := rfl
theorem findF_in (fns : List CFn) (name : Str) : findF fns name = -1 ∨ ∃ k, k < fns.length ∧ findF fns name = (k : Int) := by
  rcases idxF_in (p := isFn name) fns 0 with h | ⟨k, h, h1⟩
  · exact .inl h
  · exact .inr ⟨k, h, by rw [findF_eq, h1]; simp⟩
theorem isFn_any (f : CFn) (name : Str) (m : M) : ACalls Try.prog 32 [f.pv, .ep [.v (.string name)]] m (fun v m' => v = pB (isFn name f) ∧ m' = m) := by
  unfold CFn.pv CFn.cs
  refine ACalls.enter (mu := []) ok_mix Try.func32 rfl (by kernel_rfl) (by kernel_rfl) (by simp only [List.length_cons, List.length_nil, Try.ntmps32]; omega) ?_
  (repeat (first | refine aSeq fun X hX => ?_ | refine aBlk ?_ | refine aSkip ?_ | (first | refine aExit ?_ | refine aRet ?_); try simp only [slx, ↓reduceIte, Nat.reduceEqDiff, reduceCtorEq] | (first | refine aReg ?_ | refine aDrE ?_); simp -implicitDefEqProofs only [forall_eq, ↓slp, slb, ↓reduceIte, reduceCtorEq, jA, jB, jC, jD, jE, jF, jG, jH, jI, jJ, jK, tfCeFn] | refine hX _ _ ?_; clear hX X | clear hX X; refine hX _ _ ?_; clear hX X | clear hX X; clear hX X; refine hX _ _ ?_; clear hX X | intro hlen; unfold maxLen at hlen | apply And.intro; focus (first | omega | assumption | (repeat' apply And.intro) <;> first | omega | assumption)))
  simp only [aPost, Try.results32, aRes_n, aRes_t, aRes_c, pack_one, pack_two]
  exact leave_same rfl ⟨rfl, rfl⟩
theorem findFn_any (o o2 : Own) (L : List Sr) (fns : List CFn) (name : Str) (m : M) : ACalls Try.prog 14 [.ag [.sl o (L.map Sr.pv), .sl o2 (fns.map CFn.pv)], .v (.string name)] m (fun v m' => v = pI (findF fns name) ∧ m' = m) := by
  refine ACalls.enter (mu := []) ok_mix Try.func14 rfl (by kernel_rfl) (by kernel_rfl) (by simp only [List.length_cons, List.length_nil, Try.ntmps14]; omega) ?_
  (repeat (first | refine aSeq fun X hX => ?_ | refine aBlk ?_ | refine aSkip ?_ | (first | refine aExit ?_ | refine aRet ?_); try simp only [slx, ↓reduceIte, Nat.reduceEqDiff, reduceCtorEq] | (first | refine aReg ?_ | refine aDrE ?_); simp -implicitDefEqProofs only [forall_eq, ↓slp, slb, ↓reduceIte, reduceCtorEq, jA, jB, jC, jD, jE, jF, jG, jH, jI, jJ, jK, tfCeFn] | refine hX _ _ ?_; clear hX X | clear hX X; refine hX _ _ ?_; clear hX X | clear hX X; clear hX X; refine hX _ _ ?_; clear hX X | intro hlen; unfold maxLen at hlen | apply And.intro; focus (first | omega | assumption | (repeat' apply And.intro) <;> first | omega | assumption)))
  refine callE (idxCFn_any .no fns (isFn name) 32 (.ep [.v (.string name)]) _ (fun k hk m => isFn_any _ _ m)) ?_
  simp -implicitDefEqProofs only [↓slp, slb, ↓reduceIte, reduceCtorEq, jA, jB, jC, jD, jE, jF, jG, jH, jI, jJ, jK, tfCeFn, pI]
  (repeat (first | refine aSeq fun X hX => ?_ | refine aBlk ?_ | refine aSkip ?_ | (first | refine aExit ?_ | refine aRet ?_); try simp only [slx, ↓reduceIte, Nat.reduceEqDiff, reduceCtorEq] | (first | refine aReg ?_ | refine aDrE ?_); simp -implicitDefEqProofs only [forall_eq, ↓slp, slb, ↓reduceIte, reduceCtorEq, jA, jB, jC, jD, jE, jF, jG, jH, jI, jJ, jK, tfCeFn] | refine hX _ _ ?_; clear hX X | clear hX X; refine hX _ _ ?_; clear hX X | clear hX X; clear hX X; refine hX _ _ ?_; clear hX X | intro hlen; unfold maxLen at hlen | apply And.intro; focus (first | omega | assumption | (repeat' apply And.intro) <;> first | omega | assumption)))
  simp only [aPost, Try.results14, aRes_n, aRes_t, aRes_c, pack_one, pack_two]
  exact leave_same rfl ⟨rfl, rfl⟩
end Go.Proofs.Ytepjjgnkhcjpcaa
