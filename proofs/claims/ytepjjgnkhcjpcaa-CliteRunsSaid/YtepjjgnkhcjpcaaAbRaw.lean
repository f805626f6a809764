/-
  A region in which two makings of memory stand free of one another: shown in each order in which they may come up.
-/
import Derived.Test.YtepjjgnkhcjpcaaAbRun6
import Derived.Laws.MakeOwn
set_option linter.unusedVariables false
set_option linter.unusedSimpArgs false
namespace Go.Proofs.Ytepjjgnkhcjpcaa
open Go Go.RowKit

/-- One operation; a slice of noughts is made. -/
def mkStep (P : Program) (mu : List Nat) (o : Oper) (f : F) (m : M) (K : PV → M → Prop) : Prop := match o.op with
  | .makeSlice t l c => ∃ (z : Value) (e : TypeId) (n : Nat), ev f l = .v (.int .i64 n) ∧ ev f c = .v (.int .i64 n) ∧ n ≤ maxLen ∧ atom z = true ∧ z.oneCell' = true ∧
      (∀ w : World, (Instr.makeSlice t (.int .i64 n) (.int .i64 n)).run P w = .ok (.slice (some ⟨w.heap.size, 0, none⟩) n n) (w.alloc (.cells (madeCells #[z] n) e))) ∧ K (.bs m.nb 0 n) (m.push (List.replicate n (.v z)))
  | _ => aOp P mu noZ o f m K
def aAny (P : Program) (mu : List Nat) (ops : Array Oper) (K : F → M → Prop) : Nat → Array Bool → F → M → Prop
  | 0, listed, f, m => Region.ready .any ops listed = [] ∧ K f m
  | n + 1, listed, f, m => (Region.ready .any ops listed = [] → K f m) ∧ ∀ i ∈ Region.ready .any ops listed, ∃ o, ops[i]? = some o ∧ o.guard = none ∧ mkStep P mu o f m fun v m' => aAny P mu ops K n (listed.setIfInBounds i true) (F.put f o.dst v) m'
section
variable {P : Program} {mu : List Nat} {n : Fi} {ds : List Deferred}
theorem made_repl (z : Value) (n : Nat) : madeCells #[z] n = (List.replicate n z).toArray := Array.toList_inj.1 (by rw [toList_madeCells_one])
theorem mkStep_sound {o : Oper} {f : F} {m : M} {K : PV → M → Prop} (h : mkStep P mu o f m K) {G : Ghost} {a : Act} {w : World} (hS : St n ds G f m a w) (hb : dstB n o = true) {K' : Act → World → Prop} {Q : Exit → Act → World → Prop}
    (hK : ∀ v m' G' y w', K v m' → St n ds G' (F.put f o.dst v) m' (a.put o.dst y) w' → Ext G w G' w' → K' (a.put o.dst y) w') : o.wp P a w K' Q := by
  unfold mkStep at h
  split at h
  · rename_i t l c hop
    obtain ⟨z, e, k, h1, h2, h3, h4, h5, h6, hk⟩ := h
    have hl := ev_rep hS.fr l
    have hc := ev_rep hS.fr c
    rw [h1] at hl
    rw [h2] at hc
    have e1 := hl.atomEq
    have e2 := hc.atomEq
    have hrl : RL G w (List.replicate k (.v z)) (List.replicate k z) := by
      refine ⟨by simp, fun j q1 q2 => ?_, fun u hu => ?_⟩
      · simp only [List.getElem_replicate]; exact .v h4
      · rw [List.eq_of_mem_replicate hu]; exact h5
    obtain ⟨G', g1, g2, g3⟩ := new_bs (e := e) k h3 hS.inv hrl (Pushed.alloc w (.cells (List.replicate k z).toArray e))
    have hg : Good G w ((Instr.makeSlice t (a.eval l) (a.eval c)).run P w) (.bs m.nb 0 k) (m.push (List.replicate k (.v z))) := by
      rw [e1, e2, h6 w, made_repl]
      exact ⟨_, _, G', rfl, g1, g2, g3⟩
    have hst : Stepped P G w ((execOp a.eval o).run P w) (.bs m.nb 0 k) (m.push (List.replicate k (.v z))) := by
      obtain ⟨dst, op, ty, pos, after, guard⟩ := o
      simp only at hop
      subst hop
      exact Good.stepped (s := Instr.makeSlice t (a.eval l) (a.eval c)) hg
    obtain ⟨x, y, w', G2, q1, q2, q3, q4, q5⟩ := hst
    unfold Oper.wp
    rw [q1]
    rcases q2 with rfl | ⟨rfl, rfl⟩
    · exact hK _ _ G2 y w' hk (hS.put hb q3 q4 q5) q5
    · exact hK _ _ G2 _ w' hk (hS.put hb q3 q4 q5) q5
  · exact aOp_sound0 h hS hb hK
theorem aAny_sound {ops : Array Oper} {K : F → M → Prop} {Q : Exit → Act → World → Prop} (hbd : ∀ (j : Nat) (o : Oper), ops[j]? = some o → dstB n o = true) : ∀ (k : Nat) {listed : Array Bool} {f : F} {m : M} {G : Ghost} {a : Act} {w : World}, aAny P mu ops K k listed f m → St n ds G f m a w →
    (∀ f' m' G' a' w', K f' m' → St n ds G' f' m' a' w' → Ext G w G' w' → Q .normal a' w') → wpAny P .any ops Q k listed a w
  | 0, listed, f, m, G, a, w, h, hS, hQ => ⟨h.1, hQ f m G a w h.2 hS (Ext.refl _ _)⟩
  | k + 1, listed, f, m, G, a, w, h, hS, hQ => by
    refine ⟨fun h0 => hQ f m G a w (h.1 h0) hS (Ext.refl _ _), fun i hi => ?_⟩
    obtain ⟨o, ho, hg, hs⟩ := h.2 i hi
    unfold wpOp
    simp only [ho]
    rw [if_pos (by simp [Region.wanted, hg])]
    refine .inl (mkStep_sound hs hS (hbd i o ho) fun v m' G' y w' h1 h2 h3 => ?_)
    exact aAny_sound hbd k h1 h2 fun f' m'' G'' a' w'' q1 q2 q3 => hQ f' m'' G'' a' w'' q1 q2 (h3.trans q3)
theorem aAny_s {ops : Array Oper} {K : F → M → Prop} {k : Nat} {listed : Array Bool} {f : F} {m : M} (l : List Nat) (hr : Region.ready .any ops listed = l) (hne : l ≠ []) (h : ∀ i ∈ l, ∃ o, ops[i]? = some o ∧ o.guard = none ∧ mkStep P mu o f m fun v m' => aAny P mu ops K k (listed.setIfInBounds i true) (F.put f o.dst v) m') : aAny P mu ops K (k + 1) listed f m := by
  refine ⟨fun h0 => absurd (hr.symm.trans h0) hne, ?_⟩
  rw [hr]; exact h
end
/-- A function in which such a region stands on the spine. -/
theorem ACalls.enterR {P : Program} {mu : List Nat} {g : FuncId} {fn : Func} {l : List Code} {C : Code} {id : Nat} {ops : Array Oper} {args : List PV} {m : M} {R : PV → M → Prop}
    (hmix : P.follows .mixedOrders = true) (hf : P.funcs[g]? = some fn) (hb : fn.body = some (l.foldr .seq (.seq (.region id ops true) C))) (hc : canCall P g = true)
    (hbA : ∀ A ∈ l, Go.Code.bd (.of fn.ntmps) A = true) (hbO : ops.all (dstB (.of fn.ntmps)) = true) (hbC : Go.Code.bd (.of fn.ntmps) C = true) (hn : args.length ≤ fn.ntmps)
    (X Y : F → M → Prop) (hA : aPre P mu l X (F.args args) m) (hX : ∀ f1 m1, X f1 m1 → aAny P mu ops Y ops.size (Array.replicate ops.size false) f1 m1)
    (hC : ∀ f1 m1, Y f1 m1 → aCode P mu noZ C (aPost P fn.results.toList m R) f1 m1) : ACalls P g args m R := by
  refine ⟨hc, fun G w vs hI hl hr => calls_of_wp hf hb ?_⟩
  have hS : St (.of fn.ntmps) [] G (F.args args) m { tmps := vs.toArray ++ Array.replicate (fn.ntmps - vs.toArray.size) undef, defers := [] } w :=
    ⟨enter_fr hl hr, hI, rfl, by simp [Fi.of]; omega, fun k hk => by simp [Fi.of] at hk⟩
  refine aPre_sound hmix l hA hbA hS (Ext.refl _ _) fun G1 f1 m1 a1 w1 hx hS1 hE1 => ?_
  refine wp_seq ?_
  have hE : Ext G1 w1 G1 { w1 with drawn := w1.drawn + 1 } := ⟨rfl, Nat.le_refl _, fun _ _ => rfl, fun _ _ => rfl, Nat.le_refl _, fun _ _ => rfl, fun _ _ h => h, fun _ _ _ => rfl, (Below.refl _ _).drew⟩
  have hS' : St (.of fn.ntmps) [] G1 f1 m1 a1 { w1 with drawn := w1.drawn + 1 } := by
    refine ⟨hS1.fr.mono hE, ?_, hS1.defers, hS1.size, hS1.kept⟩
    have hI := hS1.inv
    exact ⟨hI.nb, hI.nt, hI.base, fun id c hc => by
      obtain ⟨o, h1, h2, h5⟩ := hI.box id c hc
      exact ⟨o, h1, h2.mono hE, h5⟩, hI.boxset, hI.inj, hI.tok, hI.tokd, hI.set, hI.layE hE⟩
  refine wp_region_any hmix (aAny_sound (fun j o ho => Array.all_eq_true_iff_forall_mem.1 hbO o (Array.mem_of_getElem? ho)) _ (hX f1 m1 hx) hS' fun f2 m2 G2 a2 w2 hy hS2 hE2 => ?_)
  refine wp_mono (aCode_sound hmix C (hC f2 m2 hy) hbC hS2) fun e a w' hl2 => ?_
  rcases hl2 with ⟨G', f, m', hp, hS3, hE3⟩ | ⟨_, _, _, _, _, hz, _⟩
  case inr => exact hz.elim
  have hEx : Ext G w G' w' := ((hE1.trans hE).trans hE2).trans hE3
  have fin : aRes P f m' fn.results.toList (fun vs => ∃ v' m'', Leave m m' (pack vs) v' m'' ∧ R v' m'') → a.defers = [] ∧ ∃ y, (results fn a.tmps).run P w' = .ok y w' ∧ ((∃ y' v m'' G'', Ending.returned y = .returned y' ∧ R v m'' ∧ Rep G'' w' v y' ∧ Inv G'' m'' w' ∧ Ext G w G'' w') ∨ (∃ y' v m'' G'', Ending.returned y = .panicked [{ v := y', recovered := false }] ∧ noZ v m'' ∧ Rep G'' w' v y' ∧ Inv G'' m'' w' ∧ Ext G w G'' w')) := fun ha => by
    obtain ⟨y, h1, v, m'', G'', h2, h3, h4, h5⟩ := res_fin hI hEx hS3.inv hS3.fr ha
    exact ⟨hS3.defers, y, h1, .inl ⟨y, v, m'', G'', rfl, h2, h3, h4, h5⟩⟩
  cases e with
  | normal => exact fin hp
  | ret => exact fin hp
  | _ => exact hp.elim
end Go.Proofs.Ytepjjgnkhcjpcaa
