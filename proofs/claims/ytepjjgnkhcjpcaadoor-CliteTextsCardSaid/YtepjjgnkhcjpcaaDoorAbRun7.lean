/-
  Calls on values that are known, of functions that defer a closure which recovers, too.
-/
import Derived.Test.YtepjjgnkhcjpcaaDoorAbRun6
set_option linter.unusedVariables false
set_option linter.unusedSimpArgs false
namespace Go.Proofs.YtepjjgnkhcjpcaaDoor
open Go Go.RowKit

/-- A function's code that defers one closure behind its first pieces. -/
structure DefE where
  l : List Code
  C : Code
  id : Nat
  h : FuncId
  tm : Tmp
  cs : Array Operand
  mko : Oper
  df : Oper
  dc : Call
def eDefAt (l : List Code) (id : Nat) (ops : Array Oper) (C : Code) : Option DefE := match ops.toList with
  | [mk, df] => (match mk.op, mk.dst, mk.guard, df.op, df.dst, df.guard with
    | .makeFunc (.func h) b cs, some tm, none, .defer dc, none, none => (match dc.callee with
      | .value (.tmp t) => if t = tm ∧ b = #[] ∧ dc.args = #[] then some ⟨l, C, id, h, tm, cs, mk, df, dc⟩ else none
      | _ => none)
    | _, _, _, _, _, _ => none)
  | _ => none
def eDefOf (l : List Code) (c : Code) : Option DefE := match c with
  | .seq A B => (match A with
    | .region id ops false => (match eDefAt l id ops B with
      | some d => some d
      | none => eDefOf (l ++ [A]) B)
    | _ => eDefOf (l ++ [A]) B)
  | _ => none
theorem eDefAt_some {l : List Code} {id : Nat} {ops : Array Oper} {C : Code} {d : DefE} (h : eDefAt l id ops C = some d) : (d.l = l ∧ d.C = C ∧ ops = #[d.mko, d.df] ∧ d.id = id) ∧
    (d.mko.op = .makeFunc (.func d.h) #[] d.cs ∧ d.mko.dst = some d.tm ∧ d.mko.guard = none) ∧ (d.df.op = .defer d.dc ∧ d.dc.callee = .value (.tmp d.tm) ∧ d.dc.args = #[] ∧ d.df.dst = none ∧ d.df.guard = none) := by
  unfold eDefAt at h
  split at h
  · rename_i mk df hops
    split at h
    · rename_i g b cs tm dc h1 h2 h3 h4 h5 h6
      split at h
      · rename_i t hc
        split at h
        · rename_i hq
          obtain ⟨rfl, rfl, h8⟩ := hq
          cases h
          refine ⟨⟨rfl, rfl, ?_, rfl⟩, ⟨h1, h2, h3⟩, h4, hc, h8, h5, h6⟩
          cases ops; simp_all
        · cases h
      · cases h
    · cases h
  · cases h
theorem eDefOf_some : ∀ (c : Code) {l : List Code} {d : DefE}, eDefOf l c = some d → l.foldr Code.seq c = d.l.foldr Code.seq (Code.seq (.region d.id #[d.mko, d.df] false) d.C) ∧
    (d.mko.op = .makeFunc (.func d.h) #[] d.cs ∧ d.mko.dst = some d.tm ∧ d.mko.guard = none) ∧ (d.df.op = .defer d.dc ∧ d.dc.callee = .value (.tmp d.tm) ∧ d.dc.args = #[] ∧ d.df.dst = none ∧ d.df.guard = none) := by
  intro c
  induction c with
  | seq A B ihA ihB =>
    intro l d h
    have step : ∀ {d}, eDefOf (l ++ [A]) B = some d → l.foldr Code.seq (Code.seq A B) = d.l.foldr Code.seq (Code.seq (.region d.id #[d.mko, d.df] false) d.C) ∧
        (d.mko.op = .makeFunc (.func d.h) #[] d.cs ∧ d.mko.dst = some d.tm ∧ d.mko.guard = none) ∧ (d.df.op = .defer d.dc ∧ d.dc.callee = .value (.tmp d.tm) ∧ d.dc.args = #[] ∧ d.df.dst = none ∧ d.df.guard = none) := fun {d} h => by
      have := ihB h
      simpa [List.foldr_append] using this
    unfold eDefOf at h
    split at h
    · rename_i id ops
      split at h
      · rename_i d' hd
        cases h
        obtain ⟨⟨h1, h2, h3, h4⟩, h5⟩ := eDefAt_some hd
        refine ⟨?_, h5⟩
        rw [h1, h2, ← h3, h4]
      · exact step h
    · exact step h
  | _ => intro l d h; simp [eDefOf] at h
/-- A closure that begins with recover, and hands nothing back. -/
structure RecE where
  id : Nat
  t : Tmp
  rc : Oper
  C : Code
def eRecOf (fn : Func) : Option RecE := match fn.body with
  | some (.seq (.region id ops false) C) => (match ops.toList with
    | [rc] => (match rc.op, rc.dst, rc.guard with
      | .call ⟨.builtin .recover, a, ts⟩, some t, none => if a = #[] ∧ ts = #[] ∧ fn.results.toList.length = 0 then some ⟨id, t, rc, C⟩ else none
      | _, _, _ => none)
    | _ => none)
  | _ => none
theorem eRecOf_some {fn : Func} {r : RecE} (h : eRecOf fn = some r) : fn.body = some (.seq (.region r.id #[r.rc] false) r.C) ∧ fn.results = #[] ∧
    (r.rc.op = .call { callee := .builtin .recover, args := #[], argTypes := #[] } ∧ r.rc.dst = some r.t ∧ r.rc.guard = none) := by
  unfold eRecOf at h
  split at h
  · rename_i id ops C hb
    split at h
    · rename_i rc hops
      split at h
      · rename_i a ts t h1 h2 h3
        split at h
        · rename_i hq
          obtain ⟨rfl, rfl, h8⟩ := hq
          cases h
          refine ⟨?_, ?_, h1, h2, h3⟩
          · have : ops = #[rc] := by cases ops; simp_all
            rw [hb, this]
          · have : fn.results.size = 0 := by simpa using h8
            exact Array.eq_empty_of_size_eq_zero this
        · cases h
      · cases h
    · cases h
  · cases h
def eClo (P : Program) (mu : List Nat) (call : CallR) (k : Nat) (hn : Func) (r : RecE) (cargs : List PV) (v : PV) (m : M) (kps : List Nat) (f1 : F) (rs : List ResultVar) : Option ER :=
  match eput (eFrame hn.ntmps cargs) (some r.t) v with
  | some env => (match eCode P call mu k r.C env ⟨m, none⟩ with
    | some (.fin .n _ m3) => (eRes P (F.only kps f1) m3.m rs).map fun vs => .val (pack vs) m3.m
    | some (.fin .r _ m3) => (eRes P (F.only kps f1) m3.m rs).map fun vs => .val (pack vs) m3.m
    | _ => none)
  | none => none
theorem eClo_sound {P : Program} {mu : List Nat} {call : CallR} (hc : CallOk P call) {k : Nat} {hn : Func} {r : RecE} {cargs : List PV} {v : PV} {m : M} {kps : List Nat} {f1 : F} {rs : List ResultVar} {er : ER}
    (h : eClo P mu call k hn r cargs v m kps f1 rs = some er) : ∃ v' m', er = .val v' m' ∧
      aCode P mu noZ r.C (fun e f m3 => (e = .normal ∨ e = .ret) ∧ aRes P (F.only kps f1) m3 rs (fun vs => pack vs = v' ∧ m3 = m')) (F.put (F.args cargs) (some r.t) v) m := by
  unfold eClo at h
  split at h
  · rename_i env he
    rw [← fl_frame hn.ntmps cargs, eput_fl he]
    split at h
    · rename_i env3 m3 hcode
      simp only [Option.map_eq_some_iff] at h
      obtain ⟨vs, hv, rfl⟩ := h
      exact ⟨_, _, rfl, eCode_sound hc r.C hcode ⟨.inl rfl, eRes_sound _ hv ⟨rfl, rfl⟩⟩⟩
    · rename_i env3 m3 hcode
      simp only [Option.map_eq_some_iff] at h
      obtain ⟨vs, hv, rfl⟩ := h
      exact ⟨_, _, rfl, eCode_sound hc r.C hcode ⟨.inr rfl, eRes_sound _ hv ⟨rfl, rfl⟩⟩⟩
    · cases h
  · cases h
def kpOf : List ResultVar → List Nat
  | [] => []
  | .cell a _ :: r => a :: kpOf r
  | .tmp a :: r => a :: kpOf r
def ePre' (P : Program) (call : CallR) (mu : List Nat) (k : Nat) : List Code → EN → M → Option (EN × M)
  | [], env, m => some (env, m)
  | A :: l, env, m => (match eCode P call mu k A env ⟨m, none⟩ with
    | some (.fin .n env1 m1) => ePre' P call mu k l env1 m1.m
    | _ => none)
theorem ePre'_sound {P : Program} {call : CallR} {mu : List Nat} {k : Nat} (hc : CallOk P call) : ∀ (l : List Code) {env : EN} {m : M} {env1 : EN} {m1 : M}, ePre' P call mu k l env m = some (env1, m1) → aPre P mu l (fun f1 m1' => f1 = fl env1 ∧ m1' = m1) (fl env) m
  | [], env, m, env1, m1, h => by cases h; exact ⟨rfl, rfl⟩
  | A :: l, env, m, env1, m1, h => by
    simp only [ePre'] at h
    split at h
    · rename_i env2 m2 hA
      exact eCode_sound (Z := noZ) (K := fun e f1 m1' => e = .normal ∧ aPre P mu l (fun f1 m1' => f1 = fl env1 ∧ m1' = m1) f1 m1') hc A hA ⟨rfl, ePre'_sound hc l h⟩
    · cases h
def eDef (P : Program) (mus : FuncId → List Nat) (call : CallR) (k : Nat) (g : FuncId) (q : FnE) (args : List PV) (m : M) : Option ER :=
  match eDefOf [] q.c with
  | none => none
  | some d => (match P.funcs[d.h]? with
    | none => none
    | some hn => (match eRecOf hn with
      | some r => if (canCall P d.h && (d.l.all fun A => Go.Code.bd (.of q.fn.ntmps) A) && Go.Code.bd ⟨q.fn.ntmps, kpOf q.fn.results.toList, fun _ => undef⟩ d.C && decide (d.tm < q.fn.ntmps) && !(kpOf q.fn.results.toList).contains d.tm && decide (args.length ≤ q.fn.ntmps) && Go.Code.bd (.of hn.ntmps) r.C && decide (r.t < hn.ntmps) && decide (d.cs.toList.length ≤ hn.ntmps)) = true then
          (match ePre' P call (mus g) k d.l (eFrame q.fn.ntmps args) m with
          | some (env1, m1) => (match eput env1 (some d.tm) (.fn (.func d.h) [] (d.cs.toList.map (ev (fl env1)))) with
            | some env2 => (match eCode P call (mus g) k d.C env2 ⟨m1, none⟩ with
              | some (.fin .n _ m2) => eClo P (mus d.h) call k hn r (d.cs.toList.map (ev (fl env1))) (.v .nilIface) m2.m (kpOf q.fn.results.toList) (fl env1) q.fn.results.toList
              | some (.fin .r _ m2) => eClo P (mus d.h) call k hn r (d.cs.toList.map (ev (fl env1))) (.v .nilIface) m2.m (kpOf q.fn.results.toList) (fl env1) q.fn.results.toList
              | some (.pan v m2) => eClo P (mus d.h) call k hn r (d.cs.toList.map (ev (fl env1))) v m2 (kpOf q.fn.results.toList) (fl env1) q.fn.results.toList
              | _ => none)
            | _ => none)
          | _ => none)
        else none
      | _ => none))
theorem eDef_sound {P : Program} {mus : FuncId → List Nat} {call : CallR} (hmix : P.follows .mixedOrders = true) (hc : CallOk P call) {k : Nat} {g : FuncId} {q : FnE} {args : List PV} {m : M} {er : ER}
    (hq : eEntry P g = some q) (h : eDef P mus call k g q args m = some er) : er.grants P g args m := by
  obtain ⟨e1, e2, e3, e4⟩ := eEntry_some hq
  unfold eDef at h
  split at h
  · cases h
  · rename_i d hd
    obtain ⟨d1, d2, d3⟩ := eDefOf_some _ hd
    split at h
    · cases h
    · rename_i hn hhn
      split at h
      · rename_i r hr
        obtain ⟨r1, r2, r3⟩ := eRecOf_some hr
        split at h
        · rename_i hb
          simp only [Bool.and_eq_true, decide_eq_true_eq] at hb
          obtain ⟨⟨⟨⟨⟨⟨⟨⟨b1, b2⟩, b3⟩, b4⟩, b5⟩, b6⟩, b7⟩, b8⟩, b9⟩ := hb
          split at h
          · rename_i env1 m1 hA
            split at h
            · rename_i env2 he
              generalize hkps : kpOf q.fn.results.toList = kps at *
              have htm : ∀ k ∈ kps, d.tm ≠ k := fun k hk he' => by
                simp only [Bool.not_eq_true', List.contains_eq_mem, decide_eq_false_iff_not] at b5
                exact b5 (he' ▸ hk)
              -- how the closure ends, whichever way the work went
              have clo : ∀ v m2, eClo P (mus d.h) call k hn r (d.cs.toList.map (ev (fl env1))) v m2 kps (fl env1) q.fn.results.toList = some er → ∃ v' m', er = .val v' m' ∧
                  aCode P (mus d.h) noZ r.C (fun e f m3 => (e = .normal ∨ e = .ret) ∧ aRes P (F.only kps (fl env1)) m3 q.fn.results.toList (fun vs => pack vs = v' ∧ m3 = m')) (F.put (F.args (d.cs.toList.map (ev (fl env1)))) (some r.t) v) m2 := fun v m2 hcl => eClo_sound hc hcl
              have key : ∀ v' m', er = .val v' m' → ∀ (r2' : CR) , eCode P call (mus g) k d.C env2 ⟨m1, none⟩ = some r2' → ∀ (Kc : M → Prop) (Z : PV → M → Prop), r2'.to (fun e _ m2 => (e = .normal ∨ e = .ret) ∧ Kc m2) Z →
                  (∀ m2, Kc m2 → DRet P d.h (d.cs.toList.map (ev (fl env1))) m2 (fun m3 => aRes P (F.only kps (fl env1)) m3 q.fn.results.toList (fun vs => pack vs = v' ∧ m3 = m'))) →
                  (∀ v m2, Z v m2 → DPan P d.h (d.cs.toList.map (ev (fl env1))) v m2 (fun m3 => aRes P (F.only kps (fl env1)) m3 q.fn.results.toList (fun vs => pack vs = v' ∧ m3 = m'))) → er.grants P g args m := by
                rintro v' m' rfl r2' hC Kc Z hr2 hk1 hk2
                refine ACalls.enterDL (mu := mus g) (kps := kps) (l := d.l) hmix e1 (e2.trans (congrArg some d1)) e3 b1 d2 d3 (fun A hA => List.all_eq_true.1 b2 A hA) (fun kv => by rw [bd_kv _ _ kv (fun _ => undef)]; exact b3) ⟨b4, htm⟩ b6 (fun f1 m1' => f1 = fl env1 ∧ m1' = m1) ?_ ?_
                · rw [← fl_frame q.fn.ntmps args]
                  exact ePre'_sound hc _ hA
                · rintro f1 m1' ⟨rfl, rfl⟩
                  refine ⟨Kc, Z, ?_, hk1, hk2⟩
                  rw [eput_fl he]
                  exact eCode_sound hc d.C hC hr2
              split at h
              · rename_i env3 m2 hC
                obtain ⟨v', m', he1, hcl⟩ := clo _ _ h
                refine key v' m' he1 _ hC (fun m => m = m2.m) (fun _ _ => False) ⟨.inl rfl, rfl⟩ (fun m2' hm => ?_) (fun _ _ h => h.elim)
                subst hm
                exact DRet.of hmix hhn r1 r2 r3 b7 b8 (by simpa using b9) hcl
              · rename_i env3 m2 hC
                obtain ⟨v', m', he1, hcl⟩ := clo _ _ h
                refine key v' m' he1 _ hC (fun m => m = m2.m) (fun _ _ => False) ⟨.inr rfl, rfl⟩ (fun m2' hm => ?_) (fun _ _ h => h.elim)
                subst hm
                exact DRet.of hmix hhn r1 r2 r3 b7 b8 (by simpa using b9) hcl
              · rename_i v m2 hC
                obtain ⟨v', m', he1, hcl⟩ := clo _ _ h
                refine key v' m' he1 _ hC (fun m => False) (fun v1 m1 => v1 = v ∧ m1 = m2) ⟨rfl, rfl⟩ (fun _ h => h.elim) (fun v1 m1 hv => ?_)
                obtain ⟨rfl, rfl⟩ := hv
                exact DPan.of hmix hhn r1 r2 r3 b7 b8 (by simpa using b9) hcl
              · cases h
            · cases h
          · cases h
        · cases h
      · cases h
/-- A function's code that defers one function behind its first pieces. -/
structure DefF where
  l : List Code
  C : Code
  id : Nat
  h : FuncId
  cs : Array Operand
  df : Oper
  dc : Call
def eDefAt1 (l : List Code) (id : Nat) (ops : Array Oper) (C : Code) : Option DefF := match ops.toList with
  | [df] => (match df.op, df.dst, df.guard with
    | .defer dc, none, none => (match dc.callee with
      | .value (.func h) => some ⟨l, C, id, h, dc.args, df, dc⟩
      | _ => none)
    | _, _, _ => none)
  | _ => none
def eDefOf1 (l : List Code) (c : Code) : Option DefF := match c with
  | .seq A B => (match A with
    | .region id ops false => (match eDefAt1 l id ops B with
      | some d => some d
      | none => eDefOf1 (l ++ [A]) B)
    | _ => eDefOf1 (l ++ [A]) B)
  | _ => none
theorem eDefAt1_some {l : List Code} {id : Nat} {ops : Array Oper} {C : Code} {d : DefF} (h : eDefAt1 l id ops C = some d) : (d.l = l ∧ d.C = C ∧ ops = #[d.df] ∧ d.id = id) ∧
    (d.df.op = .defer d.dc ∧ d.dc.callee = .value (.func d.h) ∧ d.dc.args = d.cs ∧ d.df.dst = none ∧ d.df.guard = none) := by
  unfold eDefAt1 at h
  split at h
  · rename_i df hops
    split at h
    · rename_i dc h4 h5 h6
      split at h
      · rename_i g hc
        cases h
        refine ⟨⟨rfl, rfl, ?_, rfl⟩, h4, hc, rfl, h5, h6⟩
        cases ops; simp_all
      · cases h
    · cases h
  · cases h
theorem eDefOf1_some : ∀ (c : Code) {l : List Code} {d : DefF}, eDefOf1 l c = some d → l.foldr Code.seq c = d.l.foldr Code.seq (Code.seq (.region d.id #[d.df] false) d.C) ∧
    (d.df.op = .defer d.dc ∧ d.dc.callee = .value (.func d.h) ∧ d.dc.args = d.cs ∧ d.df.dst = none ∧ d.df.guard = none) := by
  intro c
  induction c with
  | seq A B ihA ihB =>
    intro l d h
    have step : ∀ {d}, eDefOf1 (l ++ [A]) B = some d → l.foldr Code.seq (Code.seq A B) = d.l.foldr Code.seq (Code.seq (.region d.id #[d.df] false) d.C) ∧
        (d.df.op = .defer d.dc ∧ d.dc.callee = .value (.func d.h) ∧ d.dc.args = d.cs ∧ d.df.dst = none ∧ d.df.guard = none) := fun {d} h => by
      have := ihB h
      simpa [List.foldr_append] using this
    unfold eDefOf1 at h
    split at h
    · rename_i id ops
      split at h
      · rename_i d' hd
        cases h
        obtain ⟨⟨h1, h2, h3, h4⟩, h5⟩ := eDefAt1_some hd
        refine ⟨?_, h5⟩
        rw [h1, h2, ← h3, h4]
      · exact step h
    · exact step h
  | _ => intro l d h; simp [eDefOf1] at h
def eDef1 (P : Program) (mus : FuncId → List Nat) (call : CallR) (k : Nat) (g : FuncId) (q : FnE) (args : List PV) (m : M) : Option ER :=
  match eDefOf1 [] q.c with
  | none => none
  | some d => (match P.funcs[d.h]? with
    | none => none
    | some hn => (match eRecOf hn with
      | some r => if (canCall P d.h && (d.l.all fun A => Go.Code.bd (.of q.fn.ntmps) A) && Go.Code.bd ⟨q.fn.ntmps, kpOf q.fn.results.toList, fun _ => undef⟩ d.C && decide (args.length ≤ q.fn.ntmps) && Go.Code.bd (.of hn.ntmps) r.C && decide (r.t < hn.ntmps) && decide (d.cs.toList.length ≤ hn.ntmps)) = true then
          (match ePre' P call (mus g) k d.l (eFrame q.fn.ntmps args) m with
          | some (env1, m1) => (match eCode P call (mus g) k d.C env1 ⟨m1, none⟩ with
              | some (.fin .n _ m2) => eClo P (mus d.h) call k hn r (d.cs.toList.map (ev (fl env1))) (.v .nilIface) m2.m (kpOf q.fn.results.toList) (fl env1) q.fn.results.toList
              | some (.fin .r _ m2) => eClo P (mus d.h) call k hn r (d.cs.toList.map (ev (fl env1))) (.v .nilIface) m2.m (kpOf q.fn.results.toList) (fl env1) q.fn.results.toList
              | some (.pan v m2) => eClo P (mus d.h) call k hn r (d.cs.toList.map (ev (fl env1))) v m2 (kpOf q.fn.results.toList) (fl env1) q.fn.results.toList
              | _ => none)
          | _ => none)
        else none
      | _ => none))
theorem eDef1_sound {P : Program} {mus : FuncId → List Nat} {call : CallR} (hmix : P.follows .mixedOrders = true) (hc : CallOk P call) {k : Nat} {g : FuncId} {q : FnE} {args : List PV} {m : M} {er : ER}
    (hq : eEntry P g = some q) (h : eDef1 P mus call k g q args m = some er) : er.grants P g args m := by
  obtain ⟨e1, e2, e3, e4⟩ := eEntry_some hq
  unfold eDef1 at h
  split at h
  · cases h
  · rename_i d hd
    obtain ⟨d1, d3⟩ := eDefOf1_some _ hd
    split at h
    · cases h
    · rename_i hn hhn
      split at h
      · rename_i r hr
        obtain ⟨r1, r2, r3⟩ := eRecOf_some hr
        split at h
        · rename_i hb
          simp only [Bool.and_eq_true, decide_eq_true_eq] at hb
          obtain ⟨⟨⟨⟨⟨⟨b1, b2⟩, b3⟩, b6⟩, b7⟩, b8⟩, b9⟩ := hb
          split at h
          · rename_i env1 m1 hA
            · generalize hkps : kpOf q.fn.results.toList = kps at *
              -- how the closure ends, whichever way the work went
              have clo : ∀ v m2, eClo P (mus d.h) call k hn r (d.cs.toList.map (ev (fl env1))) v m2 kps (fl env1) q.fn.results.toList = some er → ∃ v' m', er = .val v' m' ∧
                  aCode P (mus d.h) noZ r.C (fun e f m3 => (e = .normal ∨ e = .ret) ∧ aRes P (F.only kps (fl env1)) m3 q.fn.results.toList (fun vs => pack vs = v' ∧ m3 = m')) (F.put (F.args (d.cs.toList.map (ev (fl env1)))) (some r.t) v) m2 := fun v m2 hcl => eClo_sound hc hcl
              have key : ∀ v' m', er = .val v' m' → ∀ (r2' : CR) , eCode P call (mus g) k d.C env1 ⟨m1, none⟩ = some r2' → ∀ (Kc : M → Prop) (Z : PV → M → Prop), r2'.to (fun e _ m2 => (e = .normal ∨ e = .ret) ∧ Kc m2) Z →
                  (∀ m2, Kc m2 → DRet P d.h (d.cs.toList.map (ev (fl env1))) m2 (fun m3 => aRes P (F.only kps (fl env1)) m3 q.fn.results.toList (fun vs => pack vs = v' ∧ m3 = m'))) →
                  (∀ v m2, Z v m2 → DPan P d.h (d.cs.toList.map (ev (fl env1))) v m2 (fun m3 => aRes P (F.only kps (fl env1)) m3 q.fn.results.toList (fun vs => pack vs = v' ∧ m3 = m'))) → er.grants P g args m := by
                rintro v' m' rfl r2' hC Kc Z hr2 hk1 hk2
                refine ACalls.enterDM (mu := mus g) (kps := kps) (l := d.l) hmix e1 (e2.trans (congrArg some d1)) e3 b1 d3 (fun A hA => List.all_eq_true.1 b2 A hA) (fun kv => by rw [bd_kv _ _ kv (fun _ => undef)]; exact b3) b6 (fun f1 m1' => f1 = fl env1 ∧ m1' = m1) ?_ ?_
                · rw [← fl_frame q.fn.ntmps args]
                  exact ePre'_sound hc _ hA
                · rintro f1 m1' ⟨rfl, rfl⟩
                  refine ⟨Kc, Z, ?_, hk1, hk2⟩
                  exact eCode_sound hc d.C hC hr2
              split at h
              · rename_i env3 m2 hC
                obtain ⟨v', m', he1, hcl⟩ := clo _ _ h
                refine key v' m' he1 _ hC (fun m => m = m2.m) (fun _ _ => False) ⟨.inl rfl, rfl⟩ (fun m2' hm => ?_) (fun _ _ h => h.elim)
                subst hm
                exact DRet.of hmix hhn r1 r2 r3 b7 b8 (by simpa using b9) hcl
              · rename_i env3 m2 hC
                obtain ⟨v', m', he1, hcl⟩ := clo _ _ h
                refine key v' m' he1 _ hC (fun m => m = m2.m) (fun _ _ => False) ⟨.inr rfl, rfl⟩ (fun m2' hm => ?_) (fun _ _ h => h.elim)
                subst hm
                exact DRet.of hmix hhn r1 r2 r3 b7 b8 (by simpa using b9) hcl
              · rename_i v m2 hC
                obtain ⟨v', m', he1, hcl⟩ := clo _ _ h
                refine key v' m' he1 _ hC (fun m => False) (fun v1 m1 => v1 = v ∧ m1 = m2) ⟨rfl, rfl⟩ (fun _ h => h.elim) (fun v1 m1 hv => ?_)
                obtain ⟨rfl, rfl⟩ := hv
                exact DPan.of hmix hhn r1 r2 r3 b7 b8 (by simpa using b9) hcl
              · cases h
          · cases h
        · cases h
      · cases h
def eCallD (P : Program) (mus : FuncId → List Nat) (hook : CallR) : Nat → CallR
  | 0 => fun _ _ _ => none
  | k + 1 => fun g args m => match hook g args m with
    | some r => some r
    | none => match eEntry P g with
      | none => none
      | some q => match eDef P mus (eCallD P mus hook k) k g q args m with
        | some r => some r
        | none => match eDef1 P mus (eCallD P mus hook k) k g q args m with
        | some r => some r
        | none => if args.length ≤ q.fn.ntmps then
          match eCode P (eCallD P mus hook k) (mus g) k q.c (eFrame q.fn.ntmps args) ⟨m, some []⟩ with
          | some (.fin .n env s) => (eRes P (fl env) s.m q.fn.results.toList).map fun vs => .val (pack vs) s.m s.w
          | some (.fin .r env s) => (eRes P (fl env) s.m q.fn.results.toList).map fun vs => .val (pack vs) s.m s.w
          | some (.pan v m') => some (.pan v m')
          | _ => none
        else none
theorem eCallD_sound {P : Program} {mus : FuncId → List Nat} {hook : CallR} (hmix : P.follows .mixedOrders = true) (hh : CallOk P hook) : ∀ k, CallOk P (eCallD P mus hook k)
  | 0 => fun _ _ _ _ h => by cases h
  | k + 1 => by
    intro g args m r h
    simp only [eCallD] at h
    split at h
    · rename_i r' hr'
      cases h
      exact hh _ _ _ _ hr'
    · split at h
      · cases h
      · rename_i q hq
        obtain ⟨h1, h2, h3, h4⟩ := eEntry_some hq
        have hk := eCallD_sound (mus := mus) hmix hh k
        split at h
        · rename_i r' hr'
          cases h
          exact eDef_sound hmix hk hq hr'
        split at h
        · rename_i r' hr'
          cases h
          exact eDef1_sound hmix hk hq hr'
        · split at h
          · rename_i hn
            have done : ∀ (e : EX) env (m' : MW), (e = .n ∨ e = .r) → eCode P (eCallD P mus hook k) (mus g) k q.c (eFrame q.fn.ntmps args) ⟨m, some []⟩ = some (.fin e env m') → (eRes P (fl env) m'.m q.fn.results.toList).map (fun vs => ER.val (pack vs) m'.m m'.w) = some r → r.grants P g args m := by
              intro e env m' he hc hr
              simp only [Option.map_eq_some_iff] at hr
              obtain ⟨vs, hv, rfl⟩ := hr
              refine ER.grants_mk ?_ (eCode_fr hk (m0 := m) _ _ hc (Fr.refl m))
              refine ACallsZ.enterK (mu := mus g) hmix h1 h2 h3 h4 hn ?_
              rw [← fl_frame q.fn.ntmps args]
              refine eCode_sound hk q.c hc ?_
              rcases he with rfl | rfl <;> exact eRes_sound _ hv ⟨rfl, rfl⟩
            split at h
            · rename_i env m' hc
              exact done .n env m' (.inl rfl) hc h
            · rename_i env m' hc
              exact done .r env m' (.inr rfl) hc h
            · rename_i v m' hc
              cases h
              refine ACallsZ.enterK (mu := mus g) hmix h1 h2 h3 h4 hn ?_
              rw [← fl_frame q.fn.ntmps args]
              exact eCode_sound hk q.c hc ⟨rfl, rfl⟩
            · cases h
          · cases h
def eTrueD (P : Program) (mus : FuncId → List Nat) (hook : CallR) (k : Nat) (g : FuncId) : Bool := match eCallD P mus hook k g [] M0 with
  | some (.val (.v (.bool b)) _ _) => b
  | _ => false
theorem ACalls.ranD {P : Program} {mus : FuncId → List Nat} {hook : CallR} {k : Nat} {g : FuncId} {R : PV → M → Prop} (hmix : P.follows .mixedOrders = true) (hh : CallOk P hook)
    (h : eTrueD P mus hook k g = true) (m : M) (hR : R (.v (.bool true)) m) : ACalls P g [] m R := by
  unfold eTrueD at h
  split at h
  · rename_i b m' ws he
    have := (ER.grants_val (eCallD_sound (mus := mus) hmix hh k _ _ _ _ he)).1
    subst h
    exact ACalls.closed (ACallsZ.mono this (fun v2 m2 q => q.1) (fun _ _ h => h)) m hR
  · cases h
end Go.Proofs.YtepjjgnkhcjpcaaDoor
