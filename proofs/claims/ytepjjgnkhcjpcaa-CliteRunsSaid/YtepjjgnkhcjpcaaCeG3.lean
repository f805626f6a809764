/-
  Texts that belong together: CeRun5, CeRun6, CeRun7.
-/
import Derived.Test.YtepjjgnkhcjpcaaCeG2
/-
  The frame's statements: the walk of one.
-/
set_option linter.unusedVariables false
set_option linter.unusedSimpArgs false
namespace Go.Proofs.Ytepjjgnkhcjpcaa
open Nat renaming reduceEqDiff → jA, reduceAdd → jB, reduceMul → jC, reduceLT → jD, reduceLeDiff → jE, reduceBEq → jF, reduceBNe → jG
open Int renaming reduceLE → jH, reduceLT → jI, reduceToNat → jJ, reduceEq → jK
open Go
-- EXX: CE.settle_pv, CE.pure_pv, CE.cells_pv, CE.cs, Cx.frame
set_option maxRecDepth 20000
-- TNAMES: int; uint8; int32; string; bool; *int; clite.Func; clite.frame; *clite.frame; clite.fault; clite.Machine; *clite.Machine; clite.Prog; []bool; []int32; []clite.Struct; []clite.Func; clite.Expr; []clite.Expr; clite.Stmt; []clite.Stmt; []string; map[string]int32
set_option linter.defProp false
def tfCeRun5 := And.intro @tfA (And.intro @Ex.settle_pv (And.intro @Ex.pure_pv (And.intro @Ex.cells_pv (And.intro @Ex.cs.eq_1 (And.intro @On.pv.eq_1 (And.intro @Ty.pv.eq_1 (And.intro @Va.settle_pv (And.intro @Va.pure_pv (And.intro @Va.cells_pv (And.intro @Va.cs.eq_1 (And.intro @CE.settle_pv (And.intro @CE.pure_pv (And.intro @CE.cells_pv (And.intro @CE.cs.eq_1 @Cx.frame.eq_1))))))))))))))

mutual
def CS.good : CS → Prop
  | .mk kind name part e thn els args outs => (0 ≤ kind ∧ kind ≤ 255) ∧ e.good ∧ CS.goods thn ∧ CS.goods els ∧ CE.goods args ∧ args.length ≤ 1000000
def CS.goods : List CS → Prop
  | [] => True
  | s :: l => s.good ∧ CS.goods l
end
theorem CS.goods_mem : ∀ (l : List CS), CS.goods l → ∀ e ∈ l, e.good
  | [], _, e, h => by cases h
  | a :: l, hg, e, h => by
    rcases List.mem_cons.1 h with rfl | h
    · exact hg.1
    · exact CS.goods_mem l hg.2 e h
def CFn.good (f : CFn) : Prop := CS.goods f.body ∧ f.outs.length ≤ 1000000
/-- What a frame's function may call. -/
structure Cx.deepOk (c : Cx) : Prop where
  one : 1 ≤ c.deep
  most : c.deep ≤ 1000000
  fns : ∀ f ∈ c.fns, f.good
def Cx.call (c : Cx) : Str → Int → List Int → CM → CRn (List Int) := mcallC unN binN c.L c.fns (c.deep - 1)
def Cx.st (c : Cx) (s : CS) (env : Env) (m : CM) : CRn Env := stC unN binN c.L c.fns c.call c.fn.self c.base s env m
def Cx.sts (c : Cx) (l : List CS) (env : Env) (m : CM) : CRn Env := stsC unN binN c.L c.fns c.call c.fn.self c.base l env m
/-- What statements leave. -/
def RetS (c : Cx) (m : M) (r : CRn Env) (v : PV) (m' : M) : Prop := ∃ env' s', r = .ok env' s' ∧ c.At s' env' m' ∧ Chg (c.eid :: c.p.ids) m m'
def BadS {α : Type} (c : Cx) (m : M) (r : CRn α) (v : PV) (m' : M) : Prop := BadC c.p c.L c.fns (c.eid :: c.p.ids) m r v m' ∧ ∃ w : Env, m'.get c.eid = some [.tp (envK w), .tp (envV w)]
def StsC (d : Nat) (l : List CS) : Prop := ∀ (c : Cx) (s : CM) (env : Env) (m : M), c.deep = d → c.ok → c.deepOk → c.At s env m →
  ACallsZ Try.prog 44 [.bp c.fid 0, .sl .no (l.map CS.pv)] m (RetS c m (c.sts l env s)) (BadS c m (c.sts l env s))
def StC (d : Nat) (x : CS) : Prop := ∀ (c : Cx) (s : CM) (env : Env) (m : M), c.deep = d → c.ok → c.deepOk → c.At s env m →
  ACallsZ Try.prog 48 [.bp c.fid 0, .ag x.cs] m (RetS c m (c.st x env s)) (BadS c m (c.st x env s))
def Cx.fcall (c : Cx) (name part : Str) (args : List CE) (outs : List Str) (env : Env) (m : CM) : CRn Env := callC unN binN c.L c.fns c.call c.fn.self c.base name part args outs env m
def FCallC (d : Nat) (kind : Int) (name part : Str) (e : CE) (thn els : List CS) (args : List CE) (outs : List Str) : Prop := ∀ (c : Cx) (s : CM) (env : Env) (m : M), c.deep = d → c.ok → c.deepOk → c.At s env m →
  ACallsZ Try.prog 54 [.bp c.fid 0, .ag (CS.mk kind name part e thn els args outs).cs] m (RetS c m (c.fcall name part args outs env s)) (BadS c m (c.fcall name part args outs env s))
theorem st_eq (c : Cx) (kind : Int) (name part : Str) (e : CE) (thn els : List CS) (args : List CE) (outs : List Str) (env : Env) (s : CM) : c.st (.mk kind name part e thn els args outs) env s = (stepC s).bind fun _ m =>
    if kind = 1 then (evalC unN binN c.L c.fn.self c.base env e m).bind fun x m => .ok (env.put name x) m
    else if kind = 2 then (evalC unN binN c.L c.fn.self c.base env e m).bind fun x m => (cellC c.L c.fn.self c.base name m).bind fun k m => .ok env { m with mem := m.mem.set k x }
    else if kind = 3 then (evalC unN binN c.L c.fn.self c.base env e m).bind fun x m => if x ≠ 0 then c.sts thn env m else c.sts els env m
    else if kind = 4 then c.fcall name part args outs env m
    else .bad 6 m := by
  rw [Cx.st, stC]
  rfl
section
variable {c : Cx} {s s' : CM} {env env' : Env} {m m' : M}
theorem RS.pureE {v : Env} (h : RS c.p c.L c.fns s m) (he : m.get c.eid = some [.tp (envK v), .tp (envV v)]) : ∀ id ∈ c.eid :: c.p.ids, ∀ x, m.get id = some x → PV.pures x = true := by
  intro id hid x hx
  rcases List.mem_cons.1 hid with rfl | hid
  · rw [he] at hx; cases hx; exact pures_env _
  · exact h.pure id hid x hx
theorem leave_st {v : PV} {w : Env} {R : PV → M → Prop} (hr : RS c.p c.L c.fns s' m') (he : m'.get c.eid = some [.tp (envK w), .tp (envV w)]) (hc : Chg (c.eid :: c.p.ids) m m') (hv : v.settle.pure = true) (hR : R v.settle m') : ∃ v' m'', Leave m m' v v' m'' ∧ R v' m'' :=
  leave_chg hc (hr.pureE he) hv hR
theorem Chg.toE (h : Chg c.p.ids m m') : Chg (c.eid :: c.p.ids) m m' := h.mono (fun k hk => List.mem_cons_of_mem _ hk)
/-- The frame stands where its variables turned too. -/
theorem Cx.At.put (hk : c.ok) (h : c.At s env m) (nm : Str) (x : Int) (hx : R32 x) : c.At s (env.put nm x) (m.upd c.eid [.tp (envK (env.put nm x)), .tp (envV (env.put nm x))]) := by
  refine ⟨h.rs.of (get_upd_ne (Ne.symm hk.e.1)) (get_upd_ne (Ne.symm hk.e.2.1)) (get_upd_ne (Ne.symm hk.e.2.2.1)) (get_upd_ne (Ne.symm hk.e.2.2.2)), (get_upd_ne hk.f.1).trans h.fr, get_upd_eq h.en, ?_⟩
  have : ∀ (v : Env), (∀ y ∈ v, R32 y.2) → ∀ y ∈ v.put nm x, R32 y.2 := by
    intro v
    induction v with
    | nil => intro _ y hy; simp [Env.put] at hy; subst hy; exact hx
    | cons a v ih =>
      intro hv y hy
      obtain ⟨k, z⟩ := a
      unfold Env.put at hy
      split at hy
      · rcases List.mem_cons.1 hy with rfl | hy
        · exact hx
        · exact hv y (List.mem_cons_of_mem _ hy)
      · rcases List.mem_cons.1 hy with rfl | hy
        · exact hv (k, z) (by simp)
        · exact ih (fun q hq => hv q (List.mem_cons_of_mem _ hq)) y hy
  exact this env h.e32
end
theorem mapPut_env (nm : Str) (x : Int) : ∀ v : Env, mapPut (envK v) (envV v) nm (pJ x) = (envK (v.put nm x), envV (v.put nm x))
  | [] => rfl
  | (k, y) :: v => by
    have ih := mapPut_env nm x v
    simp only [envK, envV, List.map_cons, mapPut, Env.put] at ih ⊢
    split
    · rfl
    · rw [ih]; rfl
set_option maxHeartbeats 8000000 in
theorem st_run (d : Nat) (kind : Int) (name part : Str) (e : CE) (thn els : List CS) (args : List CE) (outs : List Str) (hg : (CS.mk kind name part e thn els args outs).good)
    (hT : StsC d thn) (hL : StsC d els) (hC : FCallC d kind name part e thn els args outs) : StC d (.mk kind name part e thn els args outs) := by
  intro c s env m hd hk hdk h
  have hu := Try.underlying88
  have iE := expr_all e hg.2.1
  obtain ⟨EV, hEV⟩ : ∃ EV, c.st (.mk kind name part e thn els args outs) env s = EV := ⟨_, rfl⟩
  rw [hEV]
  have hE1 := hEV.symm
  rw [st_eq] at hE1
  clear hEV
  have hk0 := hg.1
  unfold CS.cs
  dsimp only [CS.kind, CS.name, CS.part, CS.e, CS.thn, CS.els, CS.args, CS.outs]
  refine ACallsZ.enter (mu := []) ok_mix Try.func48 rfl (by kernel_rfl) (by kernel_rfl) (by simp only [List.length_cons, List.length_nil, Try.ntmps48]; omega) ?_
  (repeat (first | refine aSeq fun X hX => ?_ | refine aBlk ?_ | refine aSkip ?_ | (first | refine aExit ?_ | refine aRet ?_); try simp only [slx, ↓reduceIte, Nat.reduceEqDiff, reduceCtorEq] | (first | refine aReg ?_ | refine aDrE ?_); simp -implicitDefEqProofs only [forall_eq, ↓slp, slb, ↓reduceIte, reduceCtorEq, jA, jB, jC, jD, jE, jF, jG, jH, jI, jJ, jK, tfCeRun5] | refine hX _ _ ?_; clear hX X | clear hX X; refine hX _ _ ?_; clear hX X | clear hX X; clear hX X; refine hX _ _ ?_; clear hX X | intro hlen; unfold maxLen at hlen | apply And.intro; focus (first | omega | assumption | (repeat' apply And.intro) <;> first | omega | assumption)))
  refine callP (stepX hk h) ?_ ?_
  · rintro v m' ⟨how, s', hr, rfl, hrs, hc⟩
    exact leave_run hrs hc rfl ⟨⟨how, s', by rw [hE1, CRn.bind_bad hr], rfl, hrs, hc.toE⟩, env, (h.run hk hrs hc).en⟩
  rintro v m1 ⟨s1, hs1, h1, hc1⟩
  have f1 : m1.get c.fid = some c.frame := h1.fr
  rw [CRn.bind_ok hs1] at hE1
  simp -implicitDefEqProofs only [↓slp, slb, ↓reduceIte, reduceCtorEq, jA, jB, jC, jD, jE, jF, jG, jH, jI, jJ, jK, tfCeRun5]
  (repeat (first | refine aSeq fun X hX => ?_ | refine aBlk ?_ | refine aSkip ?_ | (first | refine aExit ?_ | refine aRet ?_); try simp only [slx, ↓reduceIte, Nat.reduceEqDiff, reduceCtorEq] | (first | refine aReg ?_ | refine aDrE ?_); simp -implicitDefEqProofs only [forall_eq, ↓slp, slb, ↓reduceIte, reduceCtorEq, jA, jB, jC, jD, jE, jF, jG, jH, jI, jJ, jK, tfCeRun5] | refine hX _ _ ?_; clear hX X | clear hX X; refine hX _ _ ?_; clear hX X | clear hX X; clear hX X; refine hX _ _ ?_; clear hX X | intro hlen; unfold maxLen at hlen | apply And.intro; focus (first | omega | assumption | (repeat' apply And.intro) <;> first | omega | assumption)))
  have hcase : kind = 1 ∨ kind = 2 ∨ kind = 3 ∨ kind = 4 ∨ ((kind == 1) = false ∧ (kind == 2) = false ∧ (kind == 3) = false ∧ (kind == 4) = false) := by
    by_cases q1 : kind = 1
    · exact .inl q1
    by_cases q2 : kind = 2
    · exact .inr (.inl q2)
    by_cases q3 : kind = 3
    · exact .inr (.inr (.inl q3))
    by_cases q4 : kind = 4
    · exact .inr (.inr (.inr (.inl q4)))
    exact .inr (.inr (.inr (.inr (by simp [q1, q2, q3, q4]))))
  obtain ⟨Pf, hPf⟩ : ∃ Pf : M → Prop, ∀ m2, Pf m2 ↔ m2.get c.fid = some c.frame := ⟨_, fun _ => Iff.rfl⟩
  have gS : ∀ x : Subtype Pf, x.1.get c.fid = some c.frame := fun x => (hPf _).1 x.2
  have fid_e : ∀ (m : M) cc, (m.upd c.eid cc).get c.fid = m.get c.fid := fun m cc => get_upd_ne hk.f.1
  rcases hcase with rfl | rfl | rfl | rfl | ⟨q1, q2, q3, q4⟩
  · rw [if_pos rfl] at hE1
    (repeat (first | refine aSeq fun X hX => ?_ | refine aBlk ?_ | refine aSkip ?_ | (first | refine aExit ?_ | refine aRet ?_); try simp only [slx, ↓reduceIte, Nat.reduceEqDiff, reduceCtorEq] | (first | refine aReg ?_ | refine aIf ?_); simp -implicitDefEqProofs only [forall_eq, ↓slp, slb, ↓reduceIte, reduceCtorEq, jA, jB, jC, jD, jE, jF, jG, jH, jI, jJ, jK, tfCeRun5, Int.reduceBEq] | refine hX _ _ ?_; clear hX X | clear hX X; refine hX _ _ ?_; clear hX X | clear hX X; clear hX X; refine hX _ _ ?_; clear hX X | intro hlen; unfold maxLen at hlen | apply And.intro; focus (first | omega | assumption | (repeat' apply And.intro) <;> first | omega | assumption)))
    refine aDrwZ 9 (isP Pf) (by simp) rfl rfl (by kernel_rfl) (by kernel_rfl) (isP_of ((hPf _).2 f1)) ?_
    simp only [List.take_succ_cons, List.take_zero, List.drop_succ_cons, List.drop_zero, List.getElem_cons_succ, List.getElem_cons_zero]
    simp -implicitDefEqProofs only [↓slp, slb, ↓reduceIte, reduceCtorEq, jA, jB, jC, jD, jE, jF, jG, jH, jI, jJ, jK, tfCeRun5, isP_all, f1, gS]
    refine callP (iE c s1 env m1 hk h1) ?_ ?_
    · rintro v m' ⟨how, s', hr, rfl, hrs, hc⟩
      rw [CRn.bind_bad hr] at hE1
      exact leave_st hrs (h1.run hk hrs hc).en (hc1.toE.trans hc.toE) rfl ⟨⟨how, s', hE1, rfl, hrs, hc1.toE.trans hc.toE⟩, env, (h1.run hk hrs hc).en⟩
    rintro v m2 ⟨x, s2, hx, rfl, hx32, h2, hc2⟩
    rw [CRn.bind_ok hx] at hE1
    refine ⟨isP_of ((hPf _).2 h2.fr), ?_⟩
    have ge := h2.en
    have hm : tmap Try.prog 98 = some 21 := by kernel_rfl
    have hp := mapPut_env name x env
    simp -implicitDefEqProofs only [↓slp, slb, ↓reduceIte, reduceCtorEq, jA, jB, jC, jD, jE, jF, jG, jH, jI, jJ, jK, tfCeRun5, isP_all, gS, ge, hm, hp]
    have hF : (m2.upd c.eid [.tp (envK (env.put name x)), .tp (envV (env.put name x))]).get c.fid = some c.frame := (fid_e _ _).trans h2.fr
    refine ⟨isP_of ((hPf _).2 hF), ?_⟩
    simp only [aPost, Try.results48, aRes_n, aRes_t, aRes_c, pack_one, pack_two]
    have h3 := h2.put hk name x hx32
    have hc3 : Chg (c.eid :: c.p.ids) m2 _ := .upd m2 (id := c.eid) [.tp (envK (env.put name x)), .tp (envV (env.put name x))] (by simp)
    exact leave_st h3.rs h3.en ((hc1.toE.trans hc2.toE).trans hc3) rfl ⟨env.put name x, s2, hE1, h3, (hc1.toE.trans hc2.toE).trans hc3⟩
  · rw [if_neg (by omega), if_pos rfl] at hE1
    (repeat (first | refine aSeq fun X hX => ?_ | refine aBlk ?_ | refine aSkip ?_ | (first | refine aExit ?_ | refine aRet ?_); try simp only [slx, ↓reduceIte, Nat.reduceEqDiff, reduceCtorEq] | (first | refine aReg ?_ | refine aIf ?_); simp -implicitDefEqProofs only [forall_eq, ↓slp, slb, ↓reduceIte, reduceCtorEq, jA, jB, jC, jD, jE, jF, jG, jH, jI, jJ, jK, tfCeRun5, Int.reduceBEq] | refine hX _ _ ?_; clear hX X | clear hX X; refine hX _ _ ?_; clear hX X | clear hX X; clear hX X; refine hX _ _ ?_; clear hX X | intro hlen; unfold maxLen at hlen | apply And.intro; focus (first | omega | assumption | (repeat' apply And.intro) <;> first | omega | assumption)))
    refine callP (iE c s1 env m1 hk h1) ?_ ?_
    · rintro v m' ⟨how, s', hr, rfl, hrs, hc⟩
      rw [CRn.bind_bad hr] at hE1
      exact leave_st hrs (h1.run hk hrs hc).en (hc1.toE.trans hc.toE) rfl ⟨⟨how, s', hE1, rfl, hrs, hc1.toE.trans hc.toE⟩, env, (h1.run hk hrs hc).en⟩
    rintro v m2 ⟨x, s2, hx, rfl, hx32, h2, hc2⟩
    rw [CRn.bind_ok hx] at hE1
    have f2 := h2.fr
    have fm := h2.rs.mid
    have gf : ∀ cc, (m2.upd c.p.tid cc).get c.fid = some c.frame := fun cc => (get_upd_ne hk.f.2.2.1).trans f2
    have gm : ∀ cc, (m2.upd c.p.tid cc).get c.p.mid = some _ := fun cc => (get_upd_ne hk.p.n2).trans fm
    obtain ⟨P2, hP2⟩ : ∃ P2 : M → Prop, ∀ m3, P2 m3 ↔ (m3.get c.fid = some c.frame ∧ m3.get c.p.mid = some [.sl .no (c.L.map Sr.pv), .sl .no (c.fns.map CFn.pv), .bs c.p.memid 0 s2.mem.length, .bs c.p.tid 0 s2.mem.length]) := ⟨_, fun _ => Iff.rfl⟩
    have g1 : ∀ x : Subtype P2, x.1.get c.fid = some c.frame := fun x => ((hP2 _).1 x.2).1
    have g2 : ∀ x : Subtype P2, x.1.get c.p.mid = some _ := fun x => ((hP2 _).1 x.2).2
    simp -implicitDefEqProofs only [↓slp, slb, ↓reduceIte, reduceCtorEq, jA, jB, jC, jD, jE, jF, jG, jH, jI, jJ, jK, tfCeRun5]
    (repeat (first | refine aSeq fun X hX => ?_ | refine aBlk ?_ | refine aSkip ?_ | (first | refine aExit ?_ | refine aRet ?_); try simp only [slx, ↓reduceIte, Nat.reduceEqDiff, reduceCtorEq] | (first | refine aReg ?_ | refine aIf ?_); simp -implicitDefEqProofs only [forall_eq, ↓slp, slb, ↓reduceIte, reduceCtorEq, jA, jB, jC, jD, jE, jF, jG, jH, jI, jJ, jK, tfCeRun5] | refine hX _ _ ?_; clear hX X | clear hX X; refine hX _ _ ?_; clear hX X | clear hX X; clear hX X; refine hX _ _ ?_; clear hX X | intro hlen; unfold maxLen at hlen | apply And.intro; focus (first | omega | assumption | (repeat' apply And.intro) <;> first | omega | assumption)))
    refine aDrwZ 10 (isP P2) (by simp) rfl rfl (by kernel_rfl) (by kernel_rfl) (isP_of ((hP2 _).2 ⟨f2, fm⟩)) ?_
    simp only [List.take_succ_cons, List.take_zero, List.drop_succ_cons, List.drop_zero, List.getElem_cons_succ, List.getElem_cons_zero]
    simp -implicitDefEqProofs only [↓slp, slb, ↓reduceIte, reduceCtorEq, jA, jB, jC, jD, jE, jF, jG, jH, jI, jJ, jK, tfCeRun5, isP_all, f2, fm, g1, g2]
    refine callP (cellX hk h2 name) ?_ ?_
    · rintro v m' ⟨how, s', hr, rfl, hrs, hc⟩
      rw [CRn.bind_bad hr] at hE1
      exact leave_st hrs (h2.run hk hrs hc).en ((hc1.toE.trans hc2.toE).trans hc.toE) rfl ⟨⟨how, s', hE1, rfl, hrs, (hc1.toE.trans hc2.toE).trans hc.toE⟩, env, (h2.run hk hrs hc).en⟩
    rintro v m3 ⟨k, s3, rfl, hy, hkl, hmem, rfl, h3, hc3⟩
    rw [CRn.bind_ok hy, hmem] at hE1
    have hc3' : Chg c.p.ids m2 (m2.upd c.p.tid (tchB s3.tch)) := hc3.mono (fun k h => by simp at h; subst h; simp [RP.ids])
    refine ⟨isP_of ((hP2 _).2 ⟨gf _, gm _⟩), ?_⟩
    have gmem := h3.rs.mem
    rw [hmem] at gmem
    have e0 : 0 + k * 1 = k := by omega
    have hlm : (memB s2.mem).length = s2.mem.length := by simp
    have hst := h3.rs.store hk.p k x hx32
    have hset : List.take k (memB s2.mem) ++ [PV.v (Value.int .i32 x)] ++ List.drop (k + 1) (memB s2.mem) = memB (s2.mem.set k x) := by
      rw [List.set_eq_take_append_cons_drop, if_pos hkl]
      simp
    simp -implicitDefEqProofs only [↓slp, slb, ↓reduceIte, reduceCtorEq, jA, jB, jC, jD, jE, jF, jG, jH, jI, jJ, jK, tfCeRun5, isP_all, gmem, e0, hlm]
    refine ⟨hkl, hkl, ?_⟩
    rw [hset]
    rw [hmem] at hst
    have n1 : c.fid ≠ c.p.memid := hk.f.2.1
    have hc4 : Chg c.p.ids (m2.upd c.p.tid (tchB s3.tch)) _ := .upd _ (id := c.p.memid) (memB (s2.mem.set k x)) (by simp [RP.ids])
    have h4 := h3.run hk hst hc4
    refine ⟨isP_of ((hP2 _).2 ⟨h4.fr, ?_⟩), ?_⟩
    · have := h4.rs.mid
      rwa [show (s2.mem.set k x).length = s2.mem.length from List.length_set] at this
    simp only [aPost, Try.results48, aRes_n, aRes_t, aRes_c, pack_one, pack_two]
    exact leave_st h4.rs h4.en (((hc1.trans hc2).trans hc3').trans hc4).toE rfl ⟨env, _, hE1, h4, (((hc1.trans hc2).trans hc3').trans hc4).toE⟩
  · rw [if_neg (by omega), if_neg (by omega), if_pos rfl] at hE1
    (repeat (first | refine aSeq fun X hX => ?_ | refine aBlk ?_ | refine aSkip ?_ | (first | refine aExit ?_ | refine aRet ?_); try simp only [slx, ↓reduceIte, Nat.reduceEqDiff, reduceCtorEq] | (first | refine aReg ?_ | refine aIf ?_); simp -implicitDefEqProofs only [forall_eq, ↓slp, slb, ↓reduceIte, reduceCtorEq, jA, jB, jC, jD, jE, jF, jG, jH, jI, jJ, jK, tfCeRun5, Int.reduceBEq] | refine hX _ _ ?_; clear hX X | clear hX X; refine hX _ _ ?_; clear hX X | clear hX X; clear hX X; refine hX _ _ ?_; clear hX X | intro hlen; unfold maxLen at hlen | apply And.intro; focus (first | omega | assumption | (repeat' apply And.intro) <;> first | omega | assumption)))
    refine callP (iE c s1 env m1 hk h1) ?_ ?_
    · rintro v m' ⟨how, s', hr, rfl, hrs, hc⟩
      rw [CRn.bind_bad hr] at hE1
      exact leave_st hrs (h1.run hk hrs hc).en (hc1.toE.trans hc.toE) rfl ⟨⟨how, s', hE1, rfl, hrs, hc1.toE.trans hc.toE⟩, env, (h1.run hk hrs hc).en⟩
    rintro v m2 ⟨x, s2, hx, rfl, hx32, h2, hc2⟩
    rw [CRn.bind_ok hx] at hE1
    cases cx : (x == 0) with
    | true =>
      have hx0 : x = 0 := by simpa using cx
      rw [if_neg (by omega)] at hE1
      simp -implicitDefEqProofs only [↓slp, slb, ↓reduceIte, reduceCtorEq, jA, jB, jC, jD, jE, jF, jG, jH, jI, jJ, jK, tfCeRun5, cx]
      (repeat (first | refine aSeq fun X hX => ?_ | refine aBlk ?_ | refine aSkip ?_ | (first | refine aExit ?_ | refine aRet ?_); try simp only [slx, ↓reduceIte, Nat.reduceEqDiff, reduceCtorEq] | (first | refine aReg ?_ | refine aDrE ?_ | refine aIf ?_); simp -implicitDefEqProofs only [forall_eq, ↓slp, slb, ↓reduceIte, reduceCtorEq, jA, jB, jC, jD, jE, jF, jG, jH, jI, jJ, jK, tfCeRun5, cx] | refine hX _ _ ?_; clear hX X | clear hX X; refine hX _ _ ?_; clear hX X | clear hX X; clear hX X; refine hX _ _ ?_; clear hX X | intro hlen; unfold maxLen at hlen | apply And.intro; focus (first | omega | assumption | (repeat' apply And.intro) <;> first | omega | assumption)))
      refine callP (hL c s2 env m2 hd hk hdk h2) ?_ ?_
      · rintro v m' ⟨⟨how, s', hr, rfl, hrs, hc⟩, w, hw⟩
        rw [hr] at hE1
        exact leave_st hrs hw ((hc1.toE.trans hc2.toE).trans hc) rfl ⟨⟨how, s', hE1, rfl, hrs, (hc1.toE.trans hc2.toE).trans hc⟩, w, hw⟩
      rintro v m3 ⟨env3, s3, hr, h3, hc3⟩
      rw [hr] at hE1
      simp -implicitDefEqProofs only [↓slp, slb, ↓reduceIte, reduceCtorEq, jA, jB, jC, jD, jE, jF, jG, jH, jI, jJ, jK, tfCeRun5]
      (repeat (first | refine aSeq fun X hX => ?_ | refine aBlk ?_ | refine aSkip ?_ | (first | refine aExit ?_ | refine aRet ?_); try simp only [slx, ↓reduceIte, Nat.reduceEqDiff, reduceCtorEq] | (first | refine aReg ?_ | refine aDrE ?_); simp -implicitDefEqProofs only [forall_eq, ↓slp, slb, ↓reduceIte, reduceCtorEq, jA, jB, jC, jD, jE, jF, jG, jH, jI, jJ, jK, tfCeRun5] | refine hX _ _ ?_; clear hX X | clear hX X; refine hX _ _ ?_; clear hX X | clear hX X; clear hX X; refine hX _ _ ?_; clear hX X | intro hlen; unfold maxLen at hlen | apply And.intro; focus (first | omega | assumption | (repeat' apply And.intro) <;> first | omega | assumption)))
      simp only [aPost, Try.results48, aRes_n, aRes_t, aRes_c, pack_one, pack_two]
      exact leave_st h3.rs h3.en ((hc1.toE.trans hc2.toE).trans hc3) rfl ⟨env3, s3, hE1, h3, (hc1.toE.trans hc2.toE).trans hc3⟩
    | false =>
      have hx0 : x ≠ 0 := by simpa using cx
      rw [if_pos hx0] at hE1
      simp -implicitDefEqProofs only [↓slp, slb, ↓reduceIte, reduceCtorEq, jA, jB, jC, jD, jE, jF, jG, jH, jI, jJ, jK, tfCeRun5, cx]
      (repeat (first | refine aSeq fun X hX => ?_ | refine aBlk ?_ | refine aSkip ?_ | (first | refine aExit ?_ | refine aRet ?_); try simp only [slx, ↓reduceIte, Nat.reduceEqDiff, reduceCtorEq] | (first | refine aReg ?_ | refine aDrE ?_ | refine aIf ?_); simp -implicitDefEqProofs only [forall_eq, ↓slp, slb, ↓reduceIte, reduceCtorEq, jA, jB, jC, jD, jE, jF, jG, jH, jI, jJ, jK, tfCeRun5, cx] | refine hX _ _ ?_; clear hX X | clear hX X; refine hX _ _ ?_; clear hX X | clear hX X; clear hX X; refine hX _ _ ?_; clear hX X | intro hlen; unfold maxLen at hlen | apply And.intro; focus (first | omega | assumption | (repeat' apply And.intro) <;> first | omega | assumption)))
      refine callP (hT c s2 env m2 hd hk hdk h2) ?_ ?_
      · rintro v m' ⟨⟨how, s', hr, rfl, hrs, hc⟩, w, hw⟩
        rw [hr] at hE1
        exact leave_st hrs hw ((hc1.toE.trans hc2.toE).trans hc) rfl ⟨⟨how, s', hE1, rfl, hrs, (hc1.toE.trans hc2.toE).trans hc⟩, w, hw⟩
      rintro v m3 ⟨env3, s3, hr, h3, hc3⟩
      rw [hr] at hE1
      simp -implicitDefEqProofs only [↓slp, slb, ↓reduceIte, reduceCtorEq, jA, jB, jC, jD, jE, jF, jG, jH, jI, jJ, jK, tfCeRun5]
      (repeat (first | refine aSeq fun X hX => ?_ | refine aBlk ?_ | refine aSkip ?_ | (first | refine aExit ?_ | refine aRet ?_); try simp only [slx, ↓reduceIte, Nat.reduceEqDiff, reduceCtorEq] | (first | refine aReg ?_ | refine aDrE ?_); simp -implicitDefEqProofs only [forall_eq, ↓slp, slb, ↓reduceIte, reduceCtorEq, jA, jB, jC, jD, jE, jF, jG, jH, jI, jJ, jK, tfCeRun5] | refine hX _ _ ?_; clear hX X | clear hX X; refine hX _ _ ?_; clear hX X | clear hX X; clear hX X; refine hX _ _ ?_; clear hX X | intro hlen; unfold maxLen at hlen | apply And.intro; focus (first | omega | assumption | (repeat' apply And.intro) <;> first | omega | assumption)))
      simp only [aPost, Try.results48, aRes_n, aRes_t, aRes_c, pack_one, pack_two]
      exact leave_st h3.rs h3.en ((hc1.toE.trans hc2.toE).trans hc3) rfl ⟨env3, s3, hE1, h3, (hc1.toE.trans hc2.toE).trans hc3⟩
  · rw [if_neg (by omega), if_neg (by omega), if_neg (by omega), if_pos rfl] at hE1
    (repeat (first | refine aSeq fun X hX => ?_ | refine aBlk ?_ | refine aSkip ?_ | (first | refine aExit ?_ | refine aRet ?_); try simp only [slx, ↓reduceIte, Nat.reduceEqDiff, reduceCtorEq] | (first | refine aReg ?_ | refine aIf ?_); simp -implicitDefEqProofs only [forall_eq, ↓slp, slb, ↓reduceIte, reduceCtorEq, jA, jB, jC, jD, jE, jF, jG, jH, jI, jJ, jK, tfCeRun5, Int.reduceBEq] | refine hX _ _ ?_; clear hX X | clear hX X; refine hX _ _ ?_; clear hX X | clear hX X; clear hX X; refine hX _ _ ?_; clear hX X | intro hlen; unfold maxLen at hlen | apply And.intro; focus (first | omega | assumption | (repeat' apply And.intro) <;> first | omega | assumption)))
    refine callP (hC c s1 env m1 hd hk hdk h1) ?_ ?_
    · rintro v m' ⟨⟨how, s', hr, rfl, hrs, hc⟩, w, hw⟩
      rw [hr] at hE1
      exact leave_st hrs hw (hc1.toE.trans hc) rfl ⟨⟨how, s', hE1, rfl, hrs, hc1.toE.trans hc⟩, w, hw⟩
    rintro v m3 ⟨env3, s3, hr, h3, hc3⟩
    rw [hr] at hE1
    simp -implicitDefEqProofs only [↓slp, slb, ↓reduceIte, reduceCtorEq, jA, jB, jC, jD, jE, jF, jG, jH, jI, jJ, jK, tfCeRun5]
    (repeat (first | refine aSeq fun X hX => ?_ | refine aBlk ?_ | refine aSkip ?_ | (first | refine aExit ?_ | refine aRet ?_); try simp only [slx, ↓reduceIte, Nat.reduceEqDiff, reduceCtorEq] | (first | refine aReg ?_ | refine aDrE ?_); simp -implicitDefEqProofs only [forall_eq, ↓slp, slb, ↓reduceIte, reduceCtorEq, jA, jB, jC, jD, jE, jF, jG, jH, jI, jJ, jK, tfCeRun5] | refine hX _ _ ?_; clear hX X | clear hX X; refine hX _ _ ?_; clear hX X | clear hX X; clear hX X; refine hX _ _ ?_; clear hX X | intro hlen; unfold maxLen at hlen | apply And.intro; focus (first | omega | assumption | (repeat' apply And.intro) <;> first | omega | assumption)))
    simp only [aPost, Try.results48, aRes_n, aRes_t, aRes_c, pack_one, pack_two]
    exact leave_st h3.rs h3.en (hc1.toE.trans hc3) rfl ⟨env3, s3, hE1, h3, hc1.toE.trans hc3⟩
  · rw [if_neg (by simpa using q1), if_neg (by simpa using q2), if_neg (by simpa using q3), if_neg (by simpa using q4)] at hE1
    (repeat (first | refine aSeq fun X hX => ?_ | refine aBlk ?_ | refine aSkip ?_ | (first | refine aExit ?_ | refine aRet ?_); try simp only [slx, ↓reduceIte, Nat.reduceEqDiff, reduceCtorEq] | (first | refine aReg ?_ | refine aIf ?_); simp -implicitDefEqProofs only [forall_eq, ↓slp, slb, ↓reduceIte, reduceCtorEq, jA, jB, jC, jD, jE, jF, jG, jH, jI, jJ, jK, tfCeRun5, q1, q2, q3, q4, hu] | refine hX _ _ ?_; clear hX X | clear hX X; refine hX _ _ ?_; clear hX X | clear hX X; clear hX X; refine hX _ _ ?_; clear hX X | intro hlen; unfold maxLen at hlen | apply And.intro; focus (first | omega | assumption | (repeat' apply And.intro) <;> first | omega | assumption)))
    exact leave_st h1.rs h1.en hc1.toE rfl ⟨⟨6, s1, hE1, rfl, h1.rs, hc1.toE⟩, env, h1.en⟩
end Go.Proofs.Ytepjjgnkhcjpcaa

/-
  The frame's statements: one behind the other.
-/
set_option linter.unusedVariables false
set_option linter.unusedSimpArgs false
namespace Go.Proofs.Ytepjjgnkhcjpcaa
open Nat renaming reduceEqDiff → jA, reduceAdd → jB, reduceMul → jC, reduceLT → jD, reduceLeDiff → jE, reduceBEq → jF, reduceBNe → jG
open Int renaming reduceLE → jH, reduceLT → jI, reduceToNat → jJ, reduceEq → jK
open Go
-- EXX: CS.settle_pv, CS.pure_pv, CS.cells_pv, CS.cs, Cx.frame
set_option maxRecDepth 20000
-- TNAMES: int; uint8; int32; string; bool; *int; clite.Func; clite.frame; *clite.frame; clite.fault; clite.Machine; *clite.Machine; clite.Prog; []bool; []int32; []clite.Struct; []clite.Func; clite.Expr; []clite.Expr; clite.Stmt; []clite.Stmt; []string; map[string]int32
set_option linter.defProp false
def tfCeRun6 := And.intro @tfA (And.intro @Ex.settle_pv (And.intro @Ex.pure_pv (And.intro @Ex.cells_pv (And.intro @Ex.cs.eq_1 (And.intro @On.pv.eq_1 (And.intro @Ty.pv.eq_1 (And.intro @Va.settle_pv (And.intro @Va.pure_pv (And.intro @Va.cells_pv (And.intro @Va.cs.eq_1 (And.intro @CS.settle_pv (And.intro @CS.pure_pv (And.intro @CS.cells_pv (And.intro @CS.cs.eq_1 @Cx.frame.eq_1))))))))))))))

/-- .. with boxes and tokens of a function's own. -/
structure ChgT (ids : List Nat) (m mm : M) : Prop where
  nb : m.nb ≤ mm.nb
  nt : m.nt ≤ mm.nt
  toks : mm.toks.take m.nt = m.toks
  get : ∀ k, k < m.nb → k ∉ ids → mm.get k = m.get k
section
variable {ids : List Nat} {m mm m2 : M}
theorem ChgT.refl (ids : List Nat) (m : M) : ChgT ids m m := ⟨Nat.le_refl _, Nat.le_refl _, by simp [M.nt], fun _ _ _ => rfl⟩
theorem Chg.toT (h : Chg ids m mm) : ChgT ids m mm := ⟨by rw [h.nb]; exact Nat.le_refl _, by unfold M.nt; rw [h.toks]; exact Nat.le_refl _, by rw [h.toks]; exact List.take_length, fun k _ hk => h.get k hk⟩
theorem ChgT.chg (h : ChgT ids m mm) (h2 : Chg ids mm m2) : ChgT ids m m2 :=
  ⟨by rw [h2.nb]; exact h.nb, by unfold M.nt; rw [h2.toks]; exact h.nt, by rw [h2.toks]; exact h.toks, fun k hk hi => (h2.get k hi).trans (h.get k hk hi)⟩
theorem ChgT.mono {ids' : List Nat} (h : ChgT ids m mm) (hs : ∀ k ∈ ids, k ∈ ids') : ChgT ids' m mm := ⟨h.nb, h.nt, h.toks, fun k hk hi => h.get k hk fun h' => hi (hs k h')⟩
theorem ChgT.fresh {o : Own} {s s' : Nat} (h : ChgT ids m mm) (g : Mine m mm o s') : ChgT ids m ((o.use mm).fresh s) := by
  have hl := use_len o mm
  refine ⟨?_, ?_, ?_, fun k hk hi => ?_⟩
  · show m.nb ≤ (o.use mm).boxes.length
    rw [use_boxes]; exact h.nb
  · show m.nt ≤ ((o.use mm).toks ++ [some s]).length
    have := h.nt
    simp [hl]; omega
  · show ((o.use mm).toks ++ [some s]).take m.nt = m.toks
    rw [List.take_append_of_le_length (by rw [hl]; exact h.nt)]
    rcases g with rfl | ⟨t, rfl, ht, _⟩
    · exact h.toks
    · show (mm.toks.set t none).take m.nt = _
      rw [List.take_set_of_le ht, h.toks]
  · rw [fresh_get, use_get]; exact h.get k hk hi
theorem Mine.newT (h : ChgT ids m mm) (o : Own) (s : Nat) : Mine m ((o.use mm).fresh s) (.tok mm.nt) s := by
  refine .inr ⟨_, rfl, h.nt, ?_⟩
  show ((o.use mm).toks ++ [some s])[mm.nt]? = some (some s)
  rw [← use_len o mm]; simp
theorem Mine.chg {o : Own} {s : Nat} (g : Mine m mm o s) (h2 : Chg ids mm m2) : Mine m m2 o s := by
  rcases g with rfl | ⟨t, rfl, ht, ha⟩
  · exact .inl rfl
  · refine .inr ⟨t, rfl, ht, ?_⟩
    show m2.toks[t]? = _
    rw [h2.toks]; exact ha
theorem ChgT.cut (h : ChgT ids m mm) : Chg ids m (mm.cut m) := by
  refine ⟨?_, rfl, fun k hk => ?_⟩
  · show (mm.boxes.take m.nb).length = _
    rw [List.length_take]; exact Nat.min_eq_left h.nb
  · rw [cut_get]
    split
    · exact h.get k (by assumption) hk
    · rename_i hlt
      unfold M.get
      rw [List.getElem?_eq_none (by unfold M.nb at hlt; omega)]
      rfl
theorem leave_T {v : PV} {R : PV → M → Prop} (h : ChgT ids m mm) (hp : ∀ id ∈ ids, ∀ c, mm.get id = some c → PV.pures c = true) (hv : v.settle.pure = true) (hR : R v.settle (mm.cut m)) : ∃ v' m', Leave m mm v v' m' ∧ R v' m' := by
  refine leave_cut h.nb h.toks (fun id c hlt hc => ?_) hv hR
  by_cases hi : id ∈ ids
  · exact .inr (hp id hi c hc)
  · exact .inl (by rw [← h.get id hlt hi]; exact hc)
theorem cut_old {k : Nat} (h : k < m.nb) : (mm.cut m).get k = mm.get k := by rw [cut_get, if_pos h]
theorem RS.cut {p : RP} {L : List Sr} {fns : List CFn} {s s' : CM} (h0 : RS p L fns s m) (h : RS p L fns s' mm) : RS p L fns s' (mm.cut m) :=
  h.of (cut_old (get_nb h0.mid)) (cut_old (get_nb h0.mem)) (cut_old (get_nb h0.tch)) (cut_old (get_nb h0.lid))
theorem Cx.At.of {c : Cx} {s : CM} {env : Env} (h : c.At s env m) (hg : ∀ k, mm.get k = m.get k) : c.At s env mm :=
  ⟨h.rs.of (hg _) (hg _) (hg _) (hg _), (hg _).trans h.fr, (hg _).trans h.en, h.e32⟩
theorem Cx.At.cut {c : Cx} {s s' : CM} {env env' : Env} (h0 : c.At s env m) (h : c.At s' env' mm) : c.At s' env' (mm.cut m) :=
  ⟨h0.rs.cut h.rs, (cut_old (get_nb h0.fr)).trans h.fr, (cut_old (get_nb h0.en)).trans h.en, h.e32⟩
end
theorem sts_nil (c : Cx) (env : Env) (s : CM) : c.sts [] env s = .ok env s := by rw [Cx.sts, stsC]
theorem sts_cons (c : Cx) (x : CS) (l : List CS) (env : Env) (s : CM) : c.sts (x :: l) env s = (c.st x env s).bind fun env s => c.sts l env s := by rw [Cx.sts, stsC]; rfl
set_option maxHeartbeats 2000000 in
theorem sts_run (d : Nat) (l : List CS) (hS : ∀ x ∈ l, StC d x) : StsC d l := by
  intro c s env m hd hk hdk h
  refine ACallsZ.enter (mu := []) ok_mix Try.func44 rfl (by kernel_rfl) (by kernel_rfl) (by simp only [List.length_cons, List.length_nil, Try.ntmps44]; omega) ?_
  (repeat (first | refine aSeq fun X hX => ?_ | refine aBlk ?_ | refine aSkip ?_ | (first | refine aExit ?_ | refine aRet ?_); try simp only [slx, ↓reduceIte, Nat.reduceEqDiff, reduceCtorEq] | (first | refine aReg ?_ | refine aDrE ?_); simp -implicitDefEqProofs only [forall_eq, ↓slp, slb, ↓reduceIte, reduceCtorEq, jA, jB, jC, jD, jE, jF, jG, jH, jI, jJ, jK, tfCeRun6] | refine hX _ _ ?_; clear hX X | clear hX X; refine hX _ _ ?_; clear hX X | clear hX X; clear hX X; refine hX _ _ ?_; clear hX X | intro hlen; unfold maxLen at hlen | apply And.intro; focus (first | omega | assumption | (repeat' apply And.intro) <;> first | omega | assumption)))
  obtain ⟨I, hI⟩ : ∃ I : F → M → Prop, ∀ f m', I f m' = (∃ (k : Nat) (env' : Env) (s' : CM), k ≤ l.length ∧ f 0 = .bp c.fid 0 ∧ f 6 = .sl .no (l.map CS.pv) ∧ f 7 = .v (.int .i64 l.length) ∧ f 8 = .v (.int .i64 k) ∧ c.At s' env' m' ∧ Chg (c.eid :: c.p.ids) m m' ∧ c.sts l env s = c.sts (l.drop k) env' s') := ⟨_, fun _ _ => rfl⟩
  refine aLoop I (fun f m => l.length - numOf (f 8)) ?_ ?_
  · rw [hI]; exact ⟨0, env, s, by omega, rfl, rfl, rfl, rfl, h, .refl _ _, rfl⟩
  intro f m1 hrel
  rw [hI] at hrel
  obtain ⟨k, env1, s1, hkl, f0, f6, f7, f8, h1, hc1, hev⟩ := hrel
  cases c1 : decide ((k : Int) < (l.length : Int)) with
  | false =>
    obtain rfl : k = l.length := by simp at c1; omega
    (repeat (first | refine aSeq fun X hX => ?_ | refine aBlk ?_ | refine aSkip ?_ | (first | refine aExit ?_ | refine aRet ?_); try simp only [slx, ↓reduceIte, Nat.reduceEqDiff, reduceCtorEq] | (first | refine aReg ?_ | refine aDrE ?_); simp -implicitDefEqProofs only [forall_eq, ↓slp, slb, ↓reduceIte, reduceCtorEq, jA, jB, jC, jD, jE, jF, jG, jH, jI, jJ, jK, tfCeRun6, f0, f6, f7, f8, c1] | refine hX _ _ ?_; clear hX X | clear hX X; refine hX _ _ ?_; clear hX X | clear hX X; clear hX X; refine hX _ _ ?_; clear hX X | intro hlen; unfold maxLen at hlen | apply And.intro; focus (first | omega | assumption | (repeat' apply And.intro) <;> first | omega | assumption)))
    refine aIf ?_; simp -implicitDefEqProofs only [↓slp, slb, ↓reduceIte, reduceCtorEq, jA, jB, jC, jD, jE, jF, jG, jH, jI, jJ, jK]
    (repeat (first | refine aSeq fun X hX => ?_ | refine aBlk ?_ | refine aSkip ?_ | (first | refine aExit ?_ | refine aRet ?_); try simp only [slx, ↓reduceIte, Nat.reduceEqDiff, reduceCtorEq] | (first | refine aReg ?_ | refine aDrE ?_); simp -implicitDefEqProofs only [forall_eq, ↓slp, slb, ↓reduceIte, reduceCtorEq, jA, jB, jC, jD, jE, jF, jG, jH, jI, jJ, jK, tfCeRun6] | refine hX _ _ ?_; clear hX X | clear hX X; refine hX _ _ ?_; clear hX X | clear hX X; clear hX X; refine hX _ _ ?_; clear hX X | intro hlen; unfold maxLen at hlen | apply And.intro; focus (first | omega | assumption | (repeat' apply And.intro) <;> first | omega | assumption)))
    simp only [aPost, Try.results44, aRes_n, aRes_t, aRes_c, pack_one, pack_two]
    exact leave_st h1.rs h1.en hc1 rfl ⟨env1, s1, by rw [hev, List.drop_length, sts_nil], h1, hc1⟩
  | true =>
    have hlt : k < l.length := by simpa using c1
    have g0 := getD_map CS.pv l k hlt
    have hi1 : IntKind.i64.wrap ((k : Int) + 1) = ((k + 1 : Nat) : Int) := by rw [wrap64 (by omega)]; omega
    rw [List.drop_eq_getElem_cons hlt, sts_cons] at hev
    (repeat (first | refine aSeq fun X hX => ?_ | refine aBlk ?_ | refine aSkip ?_ | (first | refine aExit ?_ | refine aRet ?_); try simp only [slx, ↓reduceIte, Nat.reduceEqDiff, reduceCtorEq] | (first | refine aReg ?_ | refine aDrE ?_); simp -implicitDefEqProofs only [forall_eq, ↓slp, slb, ↓reduceIte, reduceCtorEq, jA, jB, jC, jD, jE, jF, jG, jH, jI, jJ, jK, tfCeRun6, f0, f6, f7, f8, c1] | refine hX _ _ ?_; clear hX X | clear hX X; refine hX _ _ ?_; clear hX X | clear hX X; clear hX X; refine hX _ _ ?_; clear hX X | intro hlen; unfold maxLen at hlen | apply And.intro; focus (first | omega | assumption | (repeat' apply And.intro) <;> first | omega | assumption)))
    refine aIf ?_; simp -implicitDefEqProofs only [↓slp, slb, ↓reduceIte, reduceCtorEq, jA, jB, jC, jD, jE, jF, jG, jH, jI, jJ, jK]
    (repeat (first | refine aSeq fun X hX => ?_ | refine aBlk ?_ | refine aSkip ?_ | (first | refine aExit ?_ | refine aRet ?_); try simp only [slx, ↓reduceIte, Nat.reduceEqDiff, reduceCtorEq] | (first | refine aReg ?_ | refine aDrE ?_); simp -implicitDefEqProofs only [forall_eq, ↓slp, slb, ↓reduceIte, reduceCtorEq, jA, jB, jC, jD, jE, jF, jG, jH, jI, jJ, jK, tfCeRun6, f0, f6, f7, f8, g0] | refine hX _ _ ?_; clear hX X | clear hX X; refine hX _ _ ?_; clear hX X | clear hX X; clear hX X; refine hX _ _ ?_; clear hX X | intro hlen; unfold maxLen at hlen | apply And.intro; focus (first | omega | assumption | (repeat' apply And.intro) <;> first | omega | assumption)))
    refine callP (hS l[k] (List.getElem_mem hlt) c s1 env1 m1 hd hk hdk h1) ?_ ?_
    · rintro v m' ⟨⟨how, s', hr, rfl, hrs, hc⟩, w, hw⟩
      rw [CRn.bind_bad hr] at hev
      exact leave_st hrs hw (hc1.trans hc) rfl ⟨⟨how, s', hev, rfl, hrs, hc1.trans hc⟩, w, hw⟩
    rintro v m2 ⟨env2, s2, hr, h2, hc2⟩
    rw [CRn.bind_ok hr] at hev
    simp -implicitDefEqProofs only [↓slp, slb, ↓reduceIte, reduceCtorEq, jA, jB, jC, jD, jE, jF, jG, jH, jI, jJ, jK, tfCeRun6, f0, f6, f7, f8]
    (repeat (first | refine aSeq fun X hX => ?_ | refine aBlk ?_ | refine aSkip ?_ | (first | refine aExit ?_ | refine aRet ?_); try simp only [slx, ↓reduceIte, Nat.reduceEqDiff, reduceCtorEq] | (first | refine aReg ?_ | refine aDrE ?_); simp -implicitDefEqProofs only [forall_eq, ↓slp, slb, ↓reduceIte, reduceCtorEq, jA, jB, jC, jD, jE, jF, jG, jH, jI, jJ, jK, tfCeRun6, f0, f6, f7, f8, hi1] | refine hX _ _ ?_; clear hX X | clear hX X; refine hX _ _ ?_; clear hX X | clear hX X; clear hX X; refine hX _ _ ?_; clear hX X | intro hlen; unfold maxLen at hlen | apply And.intro; focus (first | omega | assumption | (repeat' apply And.intro) <;> first | omega | assumption)))
    rw [hI]
    refine ⟨⟨k + 1, env2, s2, hlt, f0, f6, f7, rfl, h2, hc1.trans hc2, hev⟩, by first | omega | (simp only [↓slp, slb, ↓reduceIte, reduceCtorEq, jA, jB, jC, jD, jE, jF, jG, jH, jI, jJ, jK, f8]; omega)⟩
end Go.Proofs.Ytepjjgnkhcjpcaa

/-
  The frame's call of a function with a part: the walk.
-/
set_option linter.unusedVariables false
set_option linter.unusedSimpArgs false
namespace Go.Proofs.Ytepjjgnkhcjpcaa
open Nat renaming reduceEqDiff → jA, reduceAdd → jB, reduceMul → jC, reduceLT → jD, reduceLeDiff → jE, reduceBEq → jF, reduceBNe → jG
open Int renaming reduceLE → jH, reduceLT → jI, reduceToNat → jJ, reduceEq → jK
open Go
-- EXX: CS.settle_pv, CS.pure_pv, CS.cells_pv, CE.cells_pv, CE.cs, CFn.cells_pv, CFn.cs, Cx.frame
set_option maxRecDepth 20000
-- TNAMES: int; uint8; int32; string; bool; *int; clite.Func; clite.frame; *clite.frame; clite.fault; clite.Machine; *clite.Machine; clite.Prog; []bool; []int32; []clite.Struct; []clite.Func; clite.Expr; []clite.Expr; clite.Stmt; []clite.Stmt; []string; map[string]int32
set_option linter.defProp false
def tfCeRun7 := And.intro @tfA (And.intro @Ex.settle_pv (And.intro @Ex.pure_pv (And.intro @Ex.cells_pv (And.intro @Ex.cs.eq_1 (And.intro @On.pv.eq_1 (And.intro @Ty.pv.eq_1 (And.intro @Va.settle_pv (And.intro @Va.pure_pv (And.intro @Va.cells_pv (And.intro @Va.cs.eq_1 (And.intro @CS.settle_pv (And.intro @CS.pure_pv (And.intro @CS.cells_pv (And.intro @CE.cells_pv (And.intro @CE.cs.eq_1 (And.intro @CFn.cells_pv (And.intro @CFn.cs.eq_1 @Cx.frame.eq_1)))))))))))))))))

/-- A call of the machine: within as many calls as may be. -/
def MCallC (d : Nat) : Prop := ∀ (p : RP) (L : List Sr) (fns : List CFn) (s : CM) (m : M) (o : Own) (name : Str) (base : Int) (xs : List Int), p.ok → L.length ≤ 1000000 → (∀ s ∈ L, s.fields.length ≤ 1000000) → (∀ f ∈ fns, f.good) → RS p L fns s m → (∀ x ∈ xs, R32 x) →
  ACallsZ Try.prog 35 [.bp p.mid 0, .v (.string name), .v (.int .i64 base), .sl o (xs.map pJ), .bp p.lid 0, .v (.int .i64 d)] m
    (fun v m' => ∃ ys s', mcallC unN binN L fns d name base xs s = .ok ys s' ∧ v = .sl .no (ys.map pJ) ∧ (∀ y ∈ ys, R32 y) ∧ RS p L fns s' m' ∧ Chg p.ids m m') (BadC p L fns p.ids m (mcallC unN binN L fns d name base xs s))
theorem outsC_len (env : Env) : ∀ (l : List Str) (s : CM) (ys : List Int) (s' : CM), outsC env l s = .ok ys s' → ys.length = l.length ∧ s' = s
  | [], s, ys, s', h => by
    simp only [outsC, CRn.ok.injEq] at h
    obtain ⟨rfl, rfl⟩ := h
    exact ⟨rfl, rfl⟩
  | a :: l, s, ys, s', h => by
    unfold outsC at h
    cases hf : env.find a with
    | none => rw [hf] at h; cases h
    | some x =>
      rw [hf] at h
      cases hr : outsC env l s with
      | bad => simp only [hr, CRn.bind] at h; cases h
      | ok r m =>
        simp only [hr, CRn.bind, CRn.ok.injEq] at h
        obtain ⟨rfl, rfl⟩ := h
        obtain ⟨h1, h2⟩ := outsC_len env l s r m hr
        exact ⟨by simp [h1], h2⟩
theorem mcallC_len {un : Int → Int → Int} {bin : Int → Int → Int → Int} {L : List Sr} {fns : List CFn} {d : Nat} {name : Str} {base : Int} {xs : List Int} {s s' : CM} {ys : List Int} (h : mcallC un bin L fns d name base xs s = .ok ys s') : ys.length = (fns.getD (findF fns name).toNat noFn).outs.length := by
  cases d with
  | zero =>
    unfold mcallC at h
    split at h <;> cases h
  | succ d =>
    unfold mcallC at h
    split at h
    · cases h
    · cases hr : stsC un bin L fns (mcallC un bin L fns d) (fns.getD (findF fns name).toNat noFn).self base (fns.getD (findF fns name).toNat noFn).body (Env.puts [] (fns.getD (findF fns name).toNat noFn).ins xs) s with
      | bad => rw [hr] at h; cases h
      | ok env m =>
        rw [hr] at h
        exact (outsC_len env _ _ _ _ h).1
theorem argsC_cons (un : Int → Int → Int) (bin : Int → Int → Int → Int) (L : List Sr) (self : Str) (base : Int) (env : Env) (e : CE) (l : List CE) (s : CM) : argsC un bin L self base env (e :: l) s = (evalC un bin L self base env e s).bind fun x m => (argsC un bin L self base env l m).bind fun r m => .ok (x :: r) m := rfl
theorem puts_nil (v : Env) (r : List Int) : v.puts [] r = v := by cases r <;> (unfold Env.puts; rfl)
theorem CRn.bind_assoc {α β γ : Type} (r : CRn α) (f : α → CM → CRn β) (g : β → CM → CRn γ) : (r.bind f).bind g = r.bind fun a m => (f a m).bind g := by cases r <;> rfl
set_option maxHeartbeats 8000000 in
theorem fcall_run (d : Nat) (hM : MCallC (d - 1)) (kind : Int) (name part : Str) (e : CE) (thn els : List CS) (args : List CE) (outs : List Str) (hg : (CS.mk kind name part e thn els args outs).good) : FCallC d kind name part e thn els args outs := by
  intro c s env m hd hk hdk h
  have hu := Try.underlying88
  obtain ⟨EV, hEV⟩ : ∃ EV, c.fcall name part args outs env s = EV := ⟨_, rfl⟩
  rw [hEV]
  have hE1 := hEV.symm
  unfold Cx.fcall callC at hE1
  clear hEV
  unfold CS.cs
  dsimp only [CS.kind, CS.name, CS.part, CS.e, CS.thn, CS.els, CS.args, CS.outs]
  refine ACallsZ.enter (mu := []) ok_mix Try.func54 rfl (by kernel_rfl) (by kernel_rfl) (by simp only [List.length_cons, List.length_nil, Try.ntmps54]; omega) ?_
  have hf := h.fr
  have hm := h.rs.mid
  have cO := fun m => offset_any .no .no c.L (c.fns.map CFn.pv) hk.L hk.F c.fn.self part m
  have cF := fun m => findFn_any .no .no c.L c.fns name m
  obtain ⟨n, hn⟩ : ∃ n, (offsetF c.L c.fn.self part).1 = n := ⟨_, rfl⟩
  obtain ⟨st, hs2⟩ : ∃ st, (offsetF c.L c.fn.self part).2 = st := ⟨_, rfl⟩
  rw [hn, hs2] at hE1 cO
  (repeat (first | refine aSeq fun X hX => ?_ | refine aBlk ?_ | refine aSkip ?_ | (first | refine aExit ?_ | refine aRet ?_); try simp only [slx, ↓reduceIte, Nat.reduceEqDiff, reduceCtorEq] | (first | refine aReg ?_ | refine aDrE ?_); simp -implicitDefEqProofs only [forall_eq, ↓slp, slb, ↓reduceIte, reduceCtorEq, jA, jB, jC, jD, jE, jF, jG, jH, jI, jJ, jK, tfCeRun7, hf, hm] | refine hX _ _ ?_; clear hX X | clear hX X; refine hX _ _ ?_; clear hX X | clear hX X; clear hX X; refine hX _ _ ?_; clear hX X | intro hlen; unfold maxLen at hlen | apply And.intro; focus (first | omega | assumption | (repeat' apply And.intro) <;> first | omega | assumption)))
  refine callE (cO _) ?_
  refine ⟨rfl, ?_⟩
  simp -implicitDefEqProofs only [↓slp, slb, ↓reduceIte, reduceCtorEq, jA, jB, jC, jD, jE, jF, jG, jH, jI, jJ, jK, tfCeRun7, pI, hf, hm]
  (repeat (first | refine aSeq fun X hX => ?_ | refine aBlk ?_ | refine aSkip ?_ | (first | refine aExit ?_ | refine aRet ?_); try simp only [slx, ↓reduceIte, Nat.reduceEqDiff, reduceCtorEq] | (first | refine aReg ?_ | refine aDrE ?_); simp -implicitDefEqProofs only [forall_eq, ↓slp, slb, ↓reduceIte, reduceCtorEq, jA, jB, jC, jD, jE, jF, jG, jH, jI, jJ, jK, tfCeRun7, pI, hf, hm] | refine hX _ _ ?_; clear hX X | clear hX X; refine hX _ _ ?_; clear hX X | clear hX X; clear hX X; refine hX _ _ ?_; clear hX X | intro hlen; unfold maxLen at hlen | apply And.intro; focus (first | omega | assumption | (repeat' apply And.intro) <;> first | omega | assumption)))
  refine callE (cF _) ?_
  refine ⟨rfl, ?_⟩
  cases c1 : decide (n < 0) with
  | true =>
    have h1 : n < 0 := by simpa using c1
    rw [if_pos (.inl h1)] at hE1
    simp -implicitDefEqProofs only [↓slp, slb, ↓reduceIte, reduceCtorEq, jA, jB, jC, jD, jE, jF, jG, jH, jI, jJ, jK, tfCeRun7, pI, hf, hm, c1]
    (repeat (first | refine aSeq fun X hX => ?_ | refine aBlk ?_ | refine aSkip ?_ | (first | refine aExit ?_ | refine aRet ?_); try simp only [slx, ↓reduceIte, Nat.reduceEqDiff, reduceCtorEq] | (first | refine aReg ?_ | refine aDrE ?_); simp -implicitDefEqProofs only [forall_eq, ↓slp, slb, ↓reduceIte, reduceCtorEq, jA, jB, jC, jD, jE, jF, jG, jH, jI, jJ, jK, tfCeRun7, pI, hf, hm, c1] | refine hX _ _ ?_; clear hX X | clear hX X; refine hX _ _ ?_; clear hX X | clear hX X; clear hX X; refine hX _ _ ?_; clear hX X | intro hlen; unfold maxLen at hlen | apply And.intro; focus (first | omega | assumption | (repeat' apply And.intro) <;> first | omega | assumption)))
    refine aIf ?_; simp -implicitDefEqProofs only [↓slp, slb, ↓reduceIte, reduceCtorEq, jA, jB, jC, jD, jE, jF, jG, jH, jI, jJ, jK]
    (repeat (first | refine aSeq fun X hX => ?_ | refine aBlk ?_ | refine aSkip ?_ | (first | refine aExit ?_ | refine aRet ?_); try simp only [slx, ↓reduceIte, Nat.reduceEqDiff, reduceCtorEq] | (first | refine aReg ?_ | refine aDrE ?_); simp -implicitDefEqProofs only [forall_eq, ↓slp, slb, ↓reduceIte, reduceCtorEq, jA, jB, jC, jD, jE, jF, jG, jH, jI, jJ, jK, tfCeRun7, hu] | refine hX _ _ ?_; clear hX X | clear hX X; refine hX _ _ ?_; clear hX X | clear hX X; clear hX X; refine hX _ _ ?_; clear hX X | intro hlen; unfold maxLen at hlen | apply And.intro; focus (first | omega | assumption | (repeat' apply And.intro) <;> first | omega | assumption)))
    exact leave_st h.rs h.en (.refl _ _) rfl ⟨⟨2, s, hE1, rfl, h.rs, .refl _ _⟩, env, h.en⟩
  | false =>
  have h1 : ¬ n < 0 := by simpa using c1
  cases c2 : (st.toList == (⟨#[]⟩ : ByteArray).toList) with
  | true =>
    rw [if_pos (.inr c2)] at hE1
    simp -implicitDefEqProofs only [↓slp, slb, ↓reduceIte, reduceCtorEq, jA, jB, jC, jD, jE, jF, jG, jH, jI, jJ, jK, tfCeRun7, pI, hf, hm, c1, c2]
    (repeat (first | refine aSeq fun X hX => ?_ | refine aBlk ?_ | refine aSkip ?_ | (first | refine aExit ?_ | refine aRet ?_); try simp only [slx, ↓reduceIte, Nat.reduceEqDiff, reduceCtorEq] | (first | refine aReg ?_ | refine aDrE ?_); simp -implicitDefEqProofs only [forall_eq, ↓slp, slb, ↓reduceIte, reduceCtorEq, jA, jB, jC, jD, jE, jF, jG, jH, jI, jJ, jK, tfCeRun7, pI, hf, hm, c1, c2] | refine hX _ _ ?_; clear hX X | clear hX X; refine hX _ _ ?_; clear hX X | clear hX X; clear hX X; refine hX _ _ ?_; clear hX X | intro hlen; unfold maxLen at hlen | apply And.intro; focus (first | omega | assumption | (repeat' apply And.intro) <;> first | omega | assumption)))
    refine aIf ?_; simp -implicitDefEqProofs only [↓slp, slb, ↓reduceIte, reduceCtorEq, jA, jB, jC, jD, jE, jF, jG, jH, jI, jJ, jK]
    (repeat (first | refine aSeq fun X hX => ?_ | refine aBlk ?_ | refine aSkip ?_ | (first | refine aExit ?_ | refine aRet ?_); try simp only [slx, ↓reduceIte, Nat.reduceEqDiff, reduceCtorEq] | (first | refine aReg ?_ | refine aDrE ?_); simp -implicitDefEqProofs only [forall_eq, ↓slp, slb, ↓reduceIte, reduceCtorEq, jA, jB, jC, jD, jE, jF, jG, jH, jI, jJ, jK, tfCeRun7, hu] | refine hX _ _ ?_; clear hX X | clear hX X; refine hX _ _ ?_; clear hX X | clear hX X; clear hX X; refine hX _ _ ?_; clear hX X | intro hlen; unfold maxLen at hlen | apply And.intro; focus (first | omega | assumption | (repeat' apply And.intro) <;> first | omega | assumption)))
    exact leave_st h.rs h.en (.refl _ _) rfl ⟨⟨2, s, hE1, rfl, h.rs, .refl _ _⟩, env, h.en⟩
  | false =>
  rw [if_neg (by rintro (h | h); exact h1 h; rw [c2] at h; cases h)] at hE1
  rcases findF_in c.fns name with hi | ⟨k, hkl, hi⟩
  · rw [hi] at hE1 ⊢
    rw [if_pos (.inl (by omega))] at hE1
    have c3 : decide ((-1 : Int) < 0) = true := rfl
    simp -implicitDefEqProofs only [↓slp, slb, ↓reduceIte, reduceCtorEq, jA, jB, jC, jD, jE, jF, jG, jH, jI, jJ, jK, tfCeRun7, pI, hf, hm, c1, c2, c3]
    (repeat (first | refine aSeq fun X hX => ?_ | refine aBlk ?_ | refine aSkip ?_ | (first | refine aExit ?_ | refine aRet ?_); try simp only [slx, ↓reduceIte, Nat.reduceEqDiff, reduceCtorEq] | (first | refine aReg ?_ | refine aDrE ?_); simp -implicitDefEqProofs only [forall_eq, ↓slp, slb, ↓reduceIte, reduceCtorEq, jA, jB, jC, jD, jE, jF, jG, jH, jI, jJ, jK, tfCeRun7, pI, hf, hm, c1, c2, c3] | refine hX _ _ ?_; clear hX X | clear hX X; refine hX _ _ ?_; clear hX X | clear hX X; clear hX X; refine hX _ _ ?_; clear hX X | intro hlen; unfold maxLen at hlen | apply And.intro; focus (first | omega | assumption | (repeat' apply And.intro) <;> first | omega | assumption)))
    refine aIf ?_; simp -implicitDefEqProofs only [↓slp, slb, ↓reduceIte, reduceCtorEq, jA, jB, jC, jD, jE, jF, jG, jH, jI, jJ, jK]
    (repeat (first | refine aSeq fun X hX => ?_ | refine aBlk ?_ | refine aSkip ?_ | (first | refine aExit ?_ | refine aRet ?_); try simp only [slx, ↓reduceIte, Nat.reduceEqDiff, reduceCtorEq] | (first | refine aReg ?_ | refine aDrE ?_); simp -implicitDefEqProofs only [forall_eq, ↓slp, slb, ↓reduceIte, reduceCtorEq, jA, jB, jC, jD, jE, jF, jG, jH, jI, jJ, jK, tfCeRun7, pI, hf, hm, c1, c2, c3] | refine hX _ _ ?_; clear hX X | clear hX X; refine hX _ _ ?_; clear hX X | clear hX X; clear hX X; refine hX _ _ ?_; clear hX X | intro hlen; unfold maxLen at hlen | apply And.intro; focus (first | omega | assumption | (repeat' apply And.intro) <;> first | omega | assumption)))
    refine aIf ?_; simp -implicitDefEqProofs only [↓slp, slb, ↓reduceIte, reduceCtorEq, jA, jB, jC, jD, jE, jF, jG, jH, jI, jJ, jK]
    (repeat (first | refine aSeq fun X hX => ?_ | refine aBlk ?_ | refine aSkip ?_ | (first | refine aExit ?_ | refine aRet ?_); try simp only [slx, ↓reduceIte, Nat.reduceEqDiff, reduceCtorEq] | (first | refine aReg ?_ | refine aDrE ?_); simp -implicitDefEqProofs only [forall_eq, ↓slp, slb, ↓reduceIte, reduceCtorEq, jA, jB, jC, jD, jE, jF, jG, jH, jI, jJ, jK, tfCeRun7, hu] | refine hX _ _ ?_; clear hX X | clear hX X; refine hX _ _ ?_; clear hX X | clear hX X; clear hX X; refine hX _ _ ?_; clear hX X | intro hlen; unfold maxLen at hlen | apply And.intro; focus (first | omega | assumption | (repeat' apply And.intro) <;> first | omega | assumption)))
    exact leave_st h.rs h.en (.refl _ _) rfl ⟨⟨1, s, hE1, rfl, h.rs, .refl _ _⟩, env, h.en⟩
  rw [hi] at hE1 ⊢
  have hge : c.fns.getD ((k : Int).toNat) noFn = c.fns[k] := by rw [Int.toNat_natCast]; simp [hkl]
  rw [hge] at hE1
  have c3 : decide ((k : Int) < 0) = false := by simp
  have g0 := getD_map CFn.pv c.fns k hkl
  cases c4 : (c.fns[k].self.toList == st.toList) with
  | false =>
    rw [if_pos (.inr (.inl c4))] at hE1
    simp -implicitDefEqProofs only [↓slp, slb, ↓reduceIte, reduceCtorEq, jA, jB, jC, jD, jE, jF, jG, jH, jI, jJ, jK, tfCeRun7, pI, hf, hm, c1, c2, c3]
    (repeat (first | refine aSeq fun X hX => ?_ | refine aBlk ?_ | refine aSkip ?_ | (first | refine aExit ?_ | refine aRet ?_); try simp only [slx, ↓reduceIte, Nat.reduceEqDiff, reduceCtorEq] | (first | refine aReg ?_ | refine aDrE ?_); simp -implicitDefEqProofs only [forall_eq, ↓slp, slb, ↓reduceIte, reduceCtorEq, jA, jB, jC, jD, jE, jF, jG, jH, jI, jJ, jK, tfCeRun7, pI, hf, hm, c1, c2, c3] | refine hX _ _ ?_; clear hX X | clear hX X; refine hX _ _ ?_; clear hX X | clear hX X; clear hX X; refine hX _ _ ?_; clear hX X | intro hlen; unfold maxLen at hlen | apply And.intro; focus (first | omega | assumption | (repeat' apply And.intro) <;> first | omega | assumption)))
    refine aIf ?_; simp -implicitDefEqProofs only [↓slp, slb, ↓reduceIte, reduceCtorEq, jA, jB, jC, jD, jE, jF, jG, jH, jI, jJ, jK]
    (repeat (first | refine aSeq fun X hX => ?_ | refine aBlk ?_ | refine aSkip ?_ | (first | refine aExit ?_ | refine aRet ?_); try simp only [slx, ↓reduceIte, Nat.reduceEqDiff, reduceCtorEq] | (first | refine aReg ?_ | refine aDrE ?_); simp -implicitDefEqProofs only [forall_eq, ↓slp, slb, ↓reduceIte, reduceCtorEq, jA, jB, jC, jD, jE, jF, jG, jH, jI, jJ, jK, tfCeRun7, pI, hf, hm, c1, c2, c3, g0, c4] | refine hX _ _ ?_; clear hX X | clear hX X; refine hX _ _ ?_; clear hX X | clear hX X; clear hX X; refine hX _ _ ?_; clear hX X | intro hlen; unfold maxLen at hlen | apply And.intro; focus (first | omega | assumption | (repeat' apply And.intro) <;> first | omega | assumption)))
    refine aIf ?_; simp -implicitDefEqProofs only [↓slp, slb, ↓reduceIte, reduceCtorEq, jA, jB, jC, jD, jE, jF, jG, jH, jI, jJ, jK]
    (repeat (first | refine aSeq fun X hX => ?_ | refine aBlk ?_ | refine aSkip ?_ | (first | refine aExit ?_ | refine aRet ?_); try simp only [slx, ↓reduceIte, Nat.reduceEqDiff, reduceCtorEq] | (first | refine aReg ?_ | refine aDrE ?_); simp -implicitDefEqProofs only [forall_eq, ↓slp, slb, ↓reduceIte, reduceCtorEq, jA, jB, jC, jD, jE, jF, jG, jH, jI, jJ, jK, tfCeRun7, hu] | refine hX _ _ ?_; clear hX X | clear hX X; refine hX _ _ ?_; clear hX X | clear hX X; clear hX X; refine hX _ _ ?_; clear hX X | intro hlen; unfold maxLen at hlen | apply And.intro; focus (first | omega | assumption | (repeat' apply And.intro) <;> first | omega | assumption)))
    exact leave_st h.rs h.en (.refl _ _) rfl ⟨⟨1, s, hE1, rfl, h.rs, .refl _ _⟩, env, h.en⟩
  | true =>
  cases c5 : ((c.fns[k].outs.length : Int) == (outs.length : Int)) with
  | false =>
    rw [if_pos (.inr (.inr (by simp at c5; omega)))] at hE1
    simp -implicitDefEqProofs only [↓slp, slb, ↓reduceIte, reduceCtorEq, jA, jB, jC, jD, jE, jF, jG, jH, jI, jJ, jK, tfCeRun7, pI, hf, hm, c1, c2, c3]
    (repeat (first | refine aSeq fun X hX => ?_ | refine aBlk ?_ | refine aSkip ?_ | (first | refine aExit ?_ | refine aRet ?_); try simp only [slx, ↓reduceIte, Nat.reduceEqDiff, reduceCtorEq] | (first | refine aReg ?_ | refine aDrE ?_); simp -implicitDefEqProofs only [forall_eq, ↓slp, slb, ↓reduceIte, reduceCtorEq, jA, jB, jC, jD, jE, jF, jG, jH, jI, jJ, jK, tfCeRun7, pI, hf, hm, c1, c2, c3] | refine hX _ _ ?_; clear hX X | clear hX X; refine hX _ _ ?_; clear hX X | clear hX X; clear hX X; refine hX _ _ ?_; clear hX X | intro hlen; unfold maxLen at hlen | apply And.intro; focus (first | omega | assumption | (repeat' apply And.intro) <;> first | omega | assumption)))
    refine aIf ?_; simp -implicitDefEqProofs only [↓slp, slb, ↓reduceIte, reduceCtorEq, jA, jB, jC, jD, jE, jF, jG, jH, jI, jJ, jK]
    (repeat (first | refine aSeq fun X hX => ?_ | refine aBlk ?_ | refine aSkip ?_ | (first | refine aExit ?_ | refine aRet ?_); try simp only [slx, ↓reduceIte, Nat.reduceEqDiff, reduceCtorEq] | (first | refine aReg ?_ | refine aDrE ?_); simp -implicitDefEqProofs only [forall_eq, ↓slp, slb, ↓reduceIte, reduceCtorEq, jA, jB, jC, jD, jE, jF, jG, jH, jI, jJ, jK, tfCeRun7, pI, hf, hm, c1, c2, c3, g0, c4, c5] | refine hX _ _ ?_; clear hX X | clear hX X; refine hX _ _ ?_; clear hX X | clear hX X; clear hX X; refine hX _ _ ?_; clear hX X | intro hlen; unfold maxLen at hlen | apply And.intro; focus (first | omega | assumption | (repeat' apply And.intro) <;> first | omega | assumption)))
    refine aIf ?_; simp -implicitDefEqProofs only [↓slp, slb, ↓reduceIte, reduceCtorEq, jA, jB, jC, jD, jE, jF, jG, jH, jI, jJ, jK]
    (repeat (first | refine aSeq fun X hX => ?_ | refine aBlk ?_ | refine aSkip ?_ | (first | refine aExit ?_ | refine aRet ?_); try simp only [slx, ↓reduceIte, Nat.reduceEqDiff, reduceCtorEq] | (first | refine aReg ?_ | refine aDrE ?_); simp -implicitDefEqProofs only [forall_eq, ↓slp, slb, ↓reduceIte, reduceCtorEq, jA, jB, jC, jD, jE, jF, jG, jH, jI, jJ, jK, tfCeRun7, hu] | refine hX _ _ ?_; clear hX X | clear hX X; refine hX _ _ ?_; clear hX X | clear hX X; clear hX X; refine hX _ _ ?_; clear hX X | intro hlen; unfold maxLen at hlen | apply And.intro; focus (first | omega | assumption | (repeat' apply And.intro) <;> first | omega | assumption)))
    exact leave_st h.rs h.en (.refl _ _) rfl ⟨⟨1, s, hE1, rfl, h.rs, .refl _ _⟩, env, h.en⟩
  | true =>
  have h5 : c.fns[k].outs.length = outs.length := by simp at c5; omega
  rw [if_neg (by rintro (h | h | h); omega; rw [c4] at h; cases h; exact h h5)] at hE1
  simp -implicitDefEqProofs only [↓slp, slb, ↓reduceIte, reduceCtorEq, jA, jB, jC, jD, jE, jF, jG, jH, jI, jJ, jK, tfCeRun7, pI, hf, hm, c1, c2, c3]
  (repeat (first | refine aSeq fun X hX => ?_ | refine aBlk ?_ | refine aSkip ?_ | (first | refine aExit ?_ | refine aRet ?_); try simp only [slx, ↓reduceIte, Nat.reduceEqDiff, reduceCtorEq] | (first | refine aReg ?_ | refine aDrE ?_); simp -implicitDefEqProofs only [forall_eq, ↓slp, slb, ↓reduceIte, reduceCtorEq, jA, jB, jC, jD, jE, jF, jG, jH, jI, jJ, jK, tfCeRun7, pI, hf, hm, c1, c2, c3] | refine hX _ _ ?_; clear hX X | clear hX X; refine hX _ _ ?_; clear hX X | clear hX X; clear hX X; refine hX _ _ ?_; clear hX X | intro hlen; unfold maxLen at hlen | apply And.intro; focus (first | omega | assumption | (repeat' apply And.intro) <;> first | omega | assumption)))
  refine aIf ?_; simp -implicitDefEqProofs only [↓slp, slb, ↓reduceIte, reduceCtorEq, jA, jB, jC, jD, jE, jF, jG, jH, jI, jJ, jK]
  (repeat (first | refine aSeq fun X hX => ?_ | refine aBlk ?_ | refine aSkip ?_ | (first | refine aExit ?_ | refine aRet ?_); try simp only [slx, ↓reduceIte, Nat.reduceEqDiff, reduceCtorEq] | (first | refine aReg ?_ | refine aDrE ?_); simp -implicitDefEqProofs only [forall_eq, ↓slp, slb, ↓reduceIte, reduceCtorEq, jA, jB, jC, jD, jE, jF, jG, jH, jI, jJ, jK, tfCeRun7, pI, hf, hm, c1, c2, c3, g0, c4, c5] | refine hX _ _ ?_; clear hX X | clear hX X; refine hX _ _ ?_; clear hX X | clear hX X; clear hX X; refine hX _ _ ?_; clear hX X | intro hlen; unfold maxLen at hlen | apply And.intro; focus (first | omega | assumption | (repeat' apply And.intro) <;> first | omega | assumption)))
  refine aIf ?_; simp -implicitDefEqProofs only [↓slp, slb, ↓reduceIte, reduceCtorEq, jA, jB, jC, jD, jE, jF, jG, jH, jI, jJ, jK]
  (repeat (first | refine aSeq fun X hX => ?_ | refine aBlk ?_ | refine aSkip ?_ | (first | refine aExit ?_ | refine aRet ?_); try simp only [slx, ↓reduceIte, Nat.reduceEqDiff, reduceCtorEq] | (first | refine aReg ?_ | refine aDrE ?_); simp -implicitDefEqProofs only [forall_eq, ↓slp, slb, ↓reduceIte, reduceCtorEq, jA, jB, jC, jD, jE, jF, jG, jH, jI, jJ, jK, tfCeRun7] | refine hX _ _ ?_; clear hX X | clear hX X; refine hX _ _ ?_; clear hX X | clear hX X; clear hX X; refine hX _ _ ?_; clear hX X | intro hlen; unfold maxLen at hlen | apply And.intro; focus (first | omega | assumption | (repeat' apply And.intro) <;> first | omega | assumption)))
  obtain ⟨KK, hKK⟩ : ∃ KK : List Int → CM → CRn Env, ∀ xs m, KK xs m = (c.call name (IntKind.i64.wrap (c.base + n)) xs m).bind fun ys m => .ok (env.puts outs ys) m := ⟨_, fun _ _ => rfl⟩
  have hE2 : EV = (argsC unN binN c.L c.fn.self c.base env args s).bind KK := by
    rw [hE1]; congr 1; funext xs m; rw [hKK]
  clear hE1
  have hgA : ∀ x ∈ args, x.good := CE.goods_mem _ hg.2.2.2.2.1
  have hgl : args.length ≤ 1000000 := hg.2.2.2.2.2
  obtain ⟨I, hI⟩ : ∃ I : F → M → Prop, ∀ f m', I f m' = (∃ (q : Nat) (xs : List Int) (o : Own) (s' : CM), q ≤ args.length ∧ xs.length = q ∧ f 0 = .bp c.fid 0 ∧ f 3 = .ep [.v (.int .u8 kind), .v (.string name), .v (.string part), .v (.int .u8 e.kind), .v (.int .u8 e.op), .v (.int .i32 e.n), .v (.string e.name), .sl .no (e.kids.map CE.pv), .sl .no (thn.map CS.pv), .sl .no (els.map CS.pv), .sl .no (args.map CE.pv), pSL outs] ∧ f 4 = .v (.int .i64 n) ∧ f 7 = .sl o (xs.map pJ) ∧ f 89 = .sl .no (args.map CE.pv) ∧ f 90 = .v (.int .i64 args.length) ∧ f 91 = .v (.int .i64 q) ∧ c.At s' env m' ∧ ChgT c.p.ids m m' ∧ Mine m m' o 1 ∧ (∀ x ∈ xs, R32 x) ∧
    EV = (argsC unN binN c.L c.fn.self c.base env (args.drop q) s').bind fun r m => KK (xs ++ r) m) := ⟨_, fun _ _ => rfl⟩
  refine aLoop I (fun f m => args.length - numOf (f 91)) ?_ ?_
  · rw [hI]; exact ⟨0, [], .full, s, by omega, rfl, rfl, rfl, rfl, rfl, rfl, rfl, rfl, h, .refl _ _, .full, fun x hx => by simp at hx, hE2⟩
  intro f m1 hrel
  rw [hI] at hrel
  obtain ⟨q, xs, o, s1, hql, hxl, f0, f3, f4, f7, f89, f90, f91, h1, hc1, ho1, hx32, hev⟩ := hrel
  clear hE2
  cases c6 : decide ((q : Int) < (args.length : Int)) with
  | true =>
    have hlt : q < args.length := by simpa using c6
    have ga := getD_map CE.pv args q hlt
    have hi1 : IntKind.i64.wrap ((q : Int) + 1) = ((q + 1 : Nat) : Int) := by rw [wrap64 (by omega)]; omega
    have hme : numOf (f 91) = q := by rw [f91]; exact Int.toNat_natCast q
    rw [List.drop_eq_getElem_cons hlt, argsC_cons] at hev
    (repeat (first | refine aSeq fun X hX => ?_ | refine aBlk ?_ | refine aSkip ?_ | (first | refine aExit ?_ | refine aRet ?_); try simp only [slx, ↓reduceIte, Nat.reduceEqDiff, reduceCtorEq] | (first | refine aReg ?_ | refine aDrE ?_); simp -implicitDefEqProofs only [forall_eq, ↓slp, slb, ↓reduceIte, reduceCtorEq, jA, jB, jC, jD, jE, jF, jG, jH, jI, jJ, jK, tfCeRun7, f0, f3, f4, f7, f89, f90, f91, c6] | refine hX _ _ ?_; clear hX X | clear hX X; refine hX _ _ ?_; clear hX X | clear hX X; clear hX X; refine hX _ _ ?_; clear hX X | intro hlen; unfold maxLen at hlen | apply And.intro; focus (first | omega | assumption | (repeat' apply And.intro) <;> first | omega | assumption)))
    refine aIf ?_; simp -implicitDefEqProofs only [↓slp, slb, ↓reduceIte, reduceCtorEq, jA, jB, jC, jD, jE, jF, jG, jH, jI, jJ, jK]
    (repeat (first | refine aSeq fun X hX => ?_ | refine aBlk ?_ | refine aSkip ?_ | (first | refine aExit ?_ | refine aRet ?_); try simp only [slx, ↓reduceIte, Nat.reduceEqDiff, reduceCtorEq] | (first | refine aReg ?_ | refine aDrE ?_); simp -implicitDefEqProofs only [forall_eq, ↓slp, slb, ↓reduceIte, reduceCtorEq, jA, jB, jC, jD, jE, jF, jG, jH, jI, jJ, jK, tfCeRun7, f0, f3, f4, f7, f89, f90, f91, ga] | refine hX _ _ ?_; clear hX X | clear hX X; refine hX _ _ ?_; clear hX X | clear hX X; clear hX X; refine hX _ _ ?_; clear hX X | intro hlen; unfold maxLen at hlen | apply And.intro; focus (first | omega | assumption | (repeat' apply And.intro) <;> first | omega | assumption)))
    refine callP (expr_all args[q] (hgA _ (List.getElem_mem hlt)) c s1 env m1 hk h1) ?_ ?_
    · rintro v m' ⟨how, s', hr, rfl, hrs, hc⟩
      rw [CRn.bind_bad hr] at hev
      have h2 := h1.run hk hrs hc
      have hT := (hc1.chg hc)
      exact leave_T hT hrs.pure rfl ⟨⟨how, s', hev, rfl, h.rs.cut hrs, (hT.cut).toE⟩, env, (h.cut h2).en⟩
    rintro v m2 ⟨x, s2, hx, rfl, hxr, h2, hc2⟩
    rw [CRn.bind_ok hx, CRn.bind_assoc] at hev
    have ho2 := ho1.chg hc2
    have hfr : o.free m2 1 := ho2.free
    have hT := hc1.chg hc2
    simp -implicitDefEqProofs only [↓slp, slb, ↓reduceIte, reduceCtorEq, jA, jB, jC, jD, jE, jF, jG, jH, jI, jJ, jK, tfCeRun7, f0, f3, f4, f7, f89, f90, f91]
    (repeat (first | refine aSeq fun X hX => ?_ | refine aBlk ?_ | refine aSkip ?_ | (first | refine aExit ?_ | refine aRet ?_); try simp only [slx, ↓reduceIte, Nat.reduceEqDiff, reduceCtorEq] | (first | refine aReg ?_ | refine aDrE ?_); simp -implicitDefEqProofs only [forall_eq, ↓slp, slb, ↓reduceIte, reduceCtorEq, jA, jB, jC, jD, jE, jF, jG, jH, jI, jJ, jK, tfCeRun7, f0, f3, f4, f7, f89, f90, f91, hi1, hfr] | refine hX _ _ ?_; clear hX X | clear hX X; refine hX _ _ ?_; clear hX X | clear hX X; clear hX X; refine hX _ _ ?_; clear hX X | intro hlen; unfold maxLen at hlen | apply And.intro; focus (first | omega | assumption | (repeat' apply And.intro) <;> first | omega | assumption)))
    refine ⟨⟨hfr, fun y hy => by obtain ⟨z, _, rfl⟩ := List.mem_map.1 hy; rfl, by unfold maxLen; omega, by omega⟩, ?_⟩
    (repeat (first | refine aSeq fun X hX => ?_ | refine aBlk ?_ | refine aSkip ?_ | (first | refine aExit ?_ | refine aRet ?_); try simp only [slx, ↓reduceIte, Nat.reduceEqDiff, reduceCtorEq] | (refine hX _ _ ?_; clear hX X) | (clear hX X; refine hX _ _ ?_; clear hX X)))
    (repeat (first | refine aSeq fun X hX => ?_ | refine aBlk ?_ | refine aSkip ?_ | (first | refine aExit ?_ | refine aRet ?_); try simp only [slx, ↓reduceIte, Nat.reduceEqDiff, reduceCtorEq] | (first | refine aReg ?_ | refine aDrE ?_); simp -implicitDefEqProofs only [forall_eq, ↓slp, slb, ↓reduceIte, reduceCtorEq, jA, jB, jC, jD, jE, jF, jG, jH, jI, jJ, jK, tfCeRun7, f91, hi1] | refine hX _ _ ?_; clear hX X | clear hX X; refine hX _ _ ?_; clear hX X | clear hX X; clear hX X; refine hX _ _ ?_; clear hX X | intro hlen; unfold maxLen at hlen | apply And.intro; focus (first | omega | assumption | (repeat' apply And.intro) <;> first | omega | assumption)))
    rw [hI]
    refine ⟨⟨q + 1, xs ++ [x], .tok m2.nt, s2, hlt, by simp [hxl], f0, f3, f4, (by show PV.sl _ (xs.map pJ ++ [pJ x]) = _; rw [List.map_append]; rfl), f89, f90, rfl, h2.of (fun k => by rw [fresh_get, use_get]), hT.fresh ho2, .newT hT o 1, fun y hy => by
      rcases List.mem_append.1 hy with h' | h'
      · exact hx32 y h'
      · rw [List.mem_singleton.1 h']; exact hxr, ?_⟩, by first | omega | (simp only [↓slp, slb, ↓reduceIte, reduceCtorEq, jA, jB, jC, jD, jE, jF, jG, jH, jI, jJ, jK, f91]; omega)⟩
    rw [hev]
    congr 1
    funext r m
    show (KK (xs ++ x :: r) m) = KK ((xs ++ [x]) ++ r) m
    rw [List.append_assoc]; rfl
  | false =>
  obtain rfl : q = args.length := by simp at c6; omega
  rw [List.drop_length] at hev
  have hev2 : EV = KK xs s1 := by rw [hev, argsC, CRn.bind, List.append_nil]
  clear hev
  rw [hKK] at hev2
  obtain ⟨Pf, hPf⟩ : ∃ Pf : M → Prop, ∀ m2, Pf m2 ↔ m2.get c.fid = some c.frame := ⟨_, fun _ => Iff.rfl⟩
  have gS : ∀ x : Subtype Pf, x.1.get c.fid = some c.frame := fun x => (hPf _).1 x.2
  have fid_e : ∀ (m : M) cc, (m.upd c.eid cc).get c.fid = m.get c.fid := fun m cc => get_upd_ne hk.f.1
  have fr1 := h1.fr
  have hd1 := hdk.one
  have hd2 := hdk.most
  have hwd : IntKind.i64.wrap ((c.deep : Int) - 1) = ((c.deep - 1 : Nat) : Int) := by rw [wrap64 (by omega)]; omega
  (repeat (first | refine aSeq fun X hX => ?_ | refine aBlk ?_ | refine aSkip ?_ | (first | refine aExit ?_ | refine aRet ?_); try simp only [slx, ↓reduceIte, Nat.reduceEqDiff, reduceCtorEq] | (first | refine aReg ?_ | refine aDrE ?_); simp -implicitDefEqProofs only [forall_eq, ↓slp, slb, ↓reduceIte, reduceCtorEq, jA, jB, jC, jD, jE, jF, jG, jH, jI, jJ, jK, tfCeRun7, f0, f3, f4, f7, f89, f90, f91, c6] | refine hX _ _ ?_; clear hX X | clear hX X; refine hX _ _ ?_; clear hX X | clear hX X; clear hX X; refine hX _ _ ?_; clear hX X | intro hlen; unfold maxLen at hlen | apply And.intro; focus (first | omega | assumption | (repeat' apply And.intro) <;> first | omega | assumption)))
  refine aIf ?_; simp -implicitDefEqProofs only [↓slp, slb, ↓reduceIte, reduceCtorEq, jA, jB, jC, jD, jE, jF, jG, jH, jI, jJ, jK]
  (repeat (first | refine aSeq fun X hX => ?_ | refine aBlk ?_ | refine aSkip ?_ | (first | refine aExit ?_ | refine aRet ?_); try simp only [slx, ↓reduceIte, Nat.reduceEqDiff, reduceCtorEq] | (first | refine aReg ?_ | refine aIf ?_); simp -implicitDefEqProofs only [forall_eq, ↓slp, slb, ↓reduceIte, reduceCtorEq, jA, jB, jC, jD, jE, jF, jG, jH, jI, jJ, jK, tfCeRun7] | refine hX _ _ ?_; clear hX X | clear hX X; refine hX _ _ ?_; clear hX X | clear hX X; clear hX X; refine hX _ _ ?_; clear hX X | intro hlen; unfold maxLen at hlen | apply And.intro; focus (first | omega | assumption | (repeat' apply And.intro) <;> first | omega | assumption)))
  refine aDrwZ 22 (isP Pf) (by simp) rfl rfl (by kernel_rfl) (by kernel_rfl) (isP_of ((hPf _).2 fr1)) ?_
  simp only [List.take_succ_cons, List.take_zero, List.drop_succ_cons, List.drop_zero, List.getElem_cons_succ, List.getElem_cons_zero]
  simp -implicitDefEqProofs only [↓slp, slb, ↓reduceIte, reduceCtorEq, jA, jB, jC, jD, jE, jF, jG, jH, jI, jJ, jK, tfCeRun7, isP_all, f0, f3, f4, f7, fr1, gS, hwd]
  have hM' := hM c.p c.L c.fns s1 m1 o name (IntKind.i64.wrap (c.base + n)) xs hk.p hk.L hk.F hdk.fns h1.rs hx32
  rw [← hd] at hM'
  refine callP hM' ?_ ?_
  · rintro v m' ⟨how, s', hr, rfl, hrs, hc⟩
    have hr2 : c.call name (IntKind.i64.wrap (c.base + n)) xs s1 = .bad how s' := hr
    rw [CRn.bind_bad hr2] at hev2
    have h2 := h1.run hk hrs hc
    have hT := (hc1.chg hc)
    exact leave_T hT hrs.pure rfl ⟨⟨how, s', hev2, rfl, h.rs.cut hrs, (hT.cut).toE⟩, env, (h.cut h2).en⟩
  rintro v m2 ⟨ys, s2, hy, rfl, hy32, hrs, hc2⟩
  have hy2 : c.call name (IntKind.i64.wrap (c.base + n)) xs s1 = .ok ys s2 := hy
  rw [CRn.bind_ok hy2] at hev2
  have hyl : ys.length = outs.length := by rw [mcallC_len hy, hi, hge]; exact h5
  have h2 := h1.run hk hrs hc2
  have hT := hc1.chg hc2
  refine ⟨isP_of ((hPf _).2 h2.fr), ?_⟩
  simp -implicitDefEqProofs only [↓slp, slb, ↓reduceIte, reduceCtorEq, jA, jB, jC, jD, jE, jF, jG, jH, jI, jJ, jK, tfCeRun7, f0, f3, f4, f7]
  (repeat (first | refine aSeq fun X hX => ?_ | refine aBlk ?_ | refine aSkip ?_ | (first | refine aExit ?_ | refine aRet ?_); try simp only [slx, ↓reduceIte, Nat.reduceEqDiff, reduceCtorEq] | (first | refine aReg ?_ | refine aDrE ?_); simp -implicitDefEqProofs only [forall_eq, ↓slp, slb, ↓reduceIte, reduceCtorEq, jA, jB, jC, jD, jE, jF, jG, jH, jI, jJ, jK, tfCeRun7, f0, f3, f4, f7] | refine hX _ _ ?_; clear hX X | clear hX X; refine hX _ _ ?_; clear hX X | clear hX X; clear hX X; refine hX _ _ ?_; clear hX X | intro hlen; unfold maxLen at hlen | apply And.intro; focus (first | omega | assumption | (repeat' apply And.intro) <;> first | omega | assumption)))
  obtain ⟨I2, hI2⟩ : ∃ I2 : F → M → Prop, ∀ f m', I2 f m' = (∃ (q : Nat) (env' : Env), q ≤ outs.length ∧ f 0 = .bp c.fid 0 ∧ f 10 = .sl .no (ys.map pJ) ∧ f 126 = pSL outs ∧ f 127 = .v (.int .i64 outs.length) ∧ f 128 = .v (.int .i64 q) ∧ c.At s2 env' m' ∧ ChgT (c.eid :: c.p.ids) m m' ∧ EV = .ok (env'.puts (outs.drop q) (ys.drop q)) s2) := ⟨_, fun _ _ => rfl⟩
  refine aLoop I2 (fun f m => outs.length - numOf (f 128)) ?_ ?_
  · rw [hI2]; exact ⟨0, env, by omega, f0, rfl, rfl, rfl, rfl, h2, hT.mono (fun k hk => List.mem_cons_of_mem _ hk), hev2⟩
  intro f m3 hrel
  rw [hI2] at hrel
  obtain ⟨q, env3, hql, g0, g10, g126, g127, g128, h3, hc3, hev3⟩ := hrel
  clear hev2
  cases c7 : decide ((q : Int) < (outs.length : Int)) with
  | false =>
    obtain rfl : q = outs.length := by simp at c7; omega
    have hev4 : EV = .ok env3 s2 := by rw [hev3, List.drop_length, puts_nil]
    (repeat (first | refine aSeq fun X hX => ?_ | refine aBlk ?_ | refine aSkip ?_ | (first | refine aExit ?_ | refine aRet ?_); try simp only [slx, ↓reduceIte, Nat.reduceEqDiff, reduceCtorEq] | (first | refine aReg ?_ | refine aDrE ?_); simp -implicitDefEqProofs only [forall_eq, ↓slp, slb, ↓reduceIte, reduceCtorEq, jA, jB, jC, jD, jE, jF, jG, jH, jI, jJ, jK, tfCeRun7, g0, g10, g126, g127, g128, c7] | refine hX _ _ ?_; clear hX X | clear hX X; refine hX _ _ ?_; clear hX X | clear hX X; clear hX X; refine hX _ _ ?_; clear hX X | intro hlen; unfold maxLen at hlen | apply And.intro; focus (first | omega | assumption | (repeat' apply And.intro) <;> first | omega | assumption)))
    refine aIf ?_; simp -implicitDefEqProofs only [↓slp, slb, ↓reduceIte, reduceCtorEq, jA, jB, jC, jD, jE, jF, jG, jH, jI, jJ, jK]
    (repeat (first | refine aSeq fun X hX => ?_ | refine aBlk ?_ | refine aSkip ?_ | (first | refine aExit ?_ | refine aRet ?_); try simp only [slx, ↓reduceIte, Nat.reduceEqDiff, reduceCtorEq] | (first | refine aReg ?_ | refine aDrE ?_); simp -implicitDefEqProofs only [forall_eq, ↓slp, slb, ↓reduceIte, reduceCtorEq, jA, jB, jC, jD, jE, jF, jG, jH, jI, jJ, jK, tfCeRun7] | refine hX _ _ ?_; clear hX X | clear hX X; refine hX _ _ ?_; clear hX X | clear hX X; clear hX X; refine hX _ _ ?_; clear hX X | intro hlen; unfold maxLen at hlen | apply And.intro; focus (first | omega | assumption | (repeat' apply And.intro) <;> first | omega | assumption)))
    simp only [aPost, Try.results54, aRes_n, aRes_t, aRes_c, pack_one, pack_two]
    exact leave_T hc3 (h3.rs.pureE h3.en) rfl ⟨env3, s2, hev4, h.cut h3, hc3.cut⟩
  | true =>
    have hlt : q < outs.length := by simpa using c7
    have hlt2 : q < ys.length := by omega
    have ga := getD_map (fun s : Str => PV.v (Value.string s)) outs q hlt
    have gb := getD_map pJ ys q hlt2
    have hi1 : IntKind.i64.wrap ((q : Int) + 1) = ((q + 1 : Nat) : Int) := by rw [wrap64 (by omega)]; omega
    have hme : numOf (f 128) = q := by rw [g128]; exact Int.toNat_natCast q
    rw [List.drop_eq_getElem_cons hlt, List.drop_eq_getElem_cons hlt2, Env.puts] at hev3
    have fr3 := h3.fr
    have ge := h3.en
    have hmp : tmap Try.prog 98 = some 21 := by kernel_rfl
    have hp := mapPut_env outs[q] ys[q] env3
    (repeat (first | refine aSeq fun X hX => ?_ | refine aBlk ?_ | refine aSkip ?_ | (first | refine aExit ?_ | refine aRet ?_); try simp only [slx, ↓reduceIte, Nat.reduceEqDiff, reduceCtorEq] | (first | refine aReg ?_ | refine aDrE ?_); simp -implicitDefEqProofs only [forall_eq, ↓slp, slb, ↓reduceIte, reduceCtorEq, jA, jB, jC, jD, jE, jF, jG, jH, jI, jJ, jK, tfCeRun7, g0, g10, g126, g127, g128, c7] | refine hX _ _ ?_; clear hX X | clear hX X; refine hX _ _ ?_; clear hX X | clear hX X; clear hX X; refine hX _ _ ?_; clear hX X | intro hlen; unfold maxLen at hlen | apply And.intro; focus (first | omega | assumption | (repeat' apply And.intro) <;> first | omega | assumption)))
    refine aIf ?_; simp -implicitDefEqProofs only [↓slp, slb, ↓reduceIte, reduceCtorEq, jA, jB, jC, jD, jE, jF, jG, jH, jI, jJ, jK]
    (repeat (first | refine aSeq fun X hX => ?_ | refine aBlk ?_ | refine aSkip ?_ | (first | refine aExit ?_ | refine aRet ?_); try simp only [slx, ↓reduceIte, Nat.reduceEqDiff, reduceCtorEq] | (first | refine aReg ?_ | refine aIf ?_); simp -implicitDefEqProofs only [forall_eq, ↓slp, slb, ↓reduceIte, reduceCtorEq, jA, jB, jC, jD, jE, jF, jG, jH, jI, jJ, jK, tfCeRun7, g0, g10, g126, g127, g128, ga] | refine hX _ _ ?_; clear hX X | clear hX X; refine hX _ _ ?_; clear hX X | clear hX X; clear hX X; refine hX _ _ ?_; clear hX X | intro hlen; unfold maxLen at hlen | apply And.intro; focus (first | omega | assumption | (repeat' apply And.intro) <;> first | omega | assumption)))
    refine aDrw (isP Pf) (by kernel_rfl) (isP_of ((hPf _).2 fr3)) ?_
    simp -implicitDefEqProofs only [↓slp, slb, ↓reduceIte, reduceCtorEq, jA, jB, jC, jD, jE, jF, jG, jH, jI, jJ, jK, tfCeRun7, isP_all, g0, g10, fr3, gS, gb, ge, hmp, hp]
    have h4 := h3.put hk outs[q] ys[q] (hy32 _ (List.getElem_mem hlt2))
    have hc4 : Chg (c.eid :: c.p.ids) m3 _ := .upd m3 (id := c.eid) [.tp (envK (env3.put outs[q] ys[q])), .tp (envV (env3.put outs[q] ys[q]))] (by simp)
    refine ⟨hlt2, isP_of ((hPf _).2 h4.fr), ?_⟩
    (repeat (first | refine aSeq fun X hX => ?_ | refine aBlk ?_ | refine aSkip ?_ | (first | refine aExit ?_ | refine aRet ?_); try simp only [slx, ↓reduceIte, Nat.reduceEqDiff, reduceCtorEq] | (refine hX _ _ ?_; clear hX X) | (clear hX X; refine hX _ _ ?_; clear hX X)))
    (repeat (first | refine aSeq fun X hX => ?_ | refine aBlk ?_ | refine aSkip ?_ | (first | refine aExit ?_ | refine aRet ?_); try simp only [slx, ↓reduceIte, Nat.reduceEqDiff, reduceCtorEq] | (first | refine aReg ?_ | refine aDrE ?_); simp -implicitDefEqProofs only [forall_eq, ↓slp, slb, ↓reduceIte, reduceCtorEq, jA, jB, jC, jD, jE, jF, jG, jH, jI, jJ, jK, tfCeRun7, g128, hi1] | refine hX _ _ ?_; clear hX X | clear hX X; refine hX _ _ ?_; clear hX X | clear hX X; clear hX X; refine hX _ _ ?_; clear hX X | intro hlen; unfold maxLen at hlen | apply And.intro; focus (first | omega | assumption | (repeat' apply And.intro) <;> first | omega | assumption)))
    rw [hI2]
    refine ⟨⟨q + 1, _, hlt, g0, g10, g126, g127, rfl, h4, hc3.chg hc4, hev3⟩, by first | omega | (simp only [↓slp, slb, ↓reduceIte, reduceCtorEq, jA, jB, jC, jD, jE, jF, jG, jH, jI, jJ, jK, g128]; omega)⟩
end Go.Proofs.Ytepjjgnkhcjpcaa
