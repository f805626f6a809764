/-
 Texts that belong together: NmH, NmK.
-/
-- halved
import Derived.Test.YteiaedmipkcfeaaDoorNmT
import Derived.Test.YteiaedmipkcfeaaDoorNmZ
import Derived.Test.YteiaedmipkcfeaaDoorNmU
import Derived.Test.YteiaedmipkcfeaaDoorLvA
import Derived.Test.YteiaedmipkcfeaaDoorRnA
/-
 What is made calls only nodes that stand ahead of it.
-/
set_option linter.unusedVariables false
set_option linter.unusedSimpArgs false
set_option linter.unusedSectionVars false
namespace Go.Proofs.YteiaedmipkcfeaaDoor
open Go

/-- The names of the first k nodes. -/
def fS (k : Nat) : List Str := (List.range k).map (nameS ⟨#[102]⟩)
theorem fS_len (k : Nat) : (fS k).length = k := by unfold fS; rw [List.length_map, List.length_range]
theorem fS_mem {k j : Nat} (h : j < k) : nameS ⟨#[102]⟩ j ∈ fS k := List.mem_map.2 ⟨j, List.mem_range.2 h, rfl⟩
theorem fS_of {k : Nat} {s : Str} (h : s ∈ fS k) : ∃ j, j < k ∧ s = nameS ⟨#[102]⟩ j := by
 obtain ⟨j, hj, rfl⟩ := List.mem_map.1 h
 exact ⟨j, List.mem_range.1 hj, rfl⟩
theorem fS_not {k : Nat} : nameS ⟨#[102]⟩ k ∉ fS k := fun h => by
 obtain ⟨j, hj, he⟩ := fS_of h
 have := (nm_inj he).2
 omega
theorem chn_mem {R : Nat → Nat → Nat → Am → Prop} : ∀ {l : List Am} {j n n' : Nat}, Chn R j n n' l → ∀ a ∈ l, ∃ j n n', R j n n' a
 | [], j, n, n', h, a, ha => by simp at ha
 | b :: l, j, n, n', ⟨n1, h1, h2⟩, a, ha => by
  rcases List.mem_cons.1 ha with rfl | ha
  ·exact ⟨_, _, _, h1⟩
  ·exact chn_mem h2 a ha
section
variable {RB : RBT} {PC : List Qu → Prop} {k : Nat} (hRB : ∀ n n' s outs b, RB n n' s outs b → PC b.eqs)
include hRB
theorem defs_ca {s : Sc} : ∀ (outs : List Va) (l : List Qu), GDefs s outs l → ∀ q ∈ l, CaQ (fS k) PC q
 | [], l, h, q, hq => by cases h; simp at hq
 | v :: r, l, ⟨e, l', he, hl, h2⟩, q, hq => by
  subst hl
  rcases List.mem_cons.1 hq with rfl | hq
  ·exact ⟨fun h => (by cases h), fun a ha => by simp [defQ, Qu.arms] at ha⟩
  ·exact defs_ca r l' h2 q hq
theorem eqs_ca {n n' : Nat} {s : Sc} {outs : List Va} {l : List Qu} {vs : List Va} (h : GEqs RB (k : Int) n n' s outs l vs) : ∀ q ∈ l, CaQ (fS k) PC q := by
 induction h with
 | defs h => exact defs_ca hRB _ _ h
 | choice h =>
  obtain ⟨t, nms, e, ar, hns, he, har, hc, rfl⟩ := h
  intro q hq
  rw [List.mem_singleton] at hq
  subst hq
  refine ⟨fun h => (by cases h), fun a ha => ?_⟩
  obtain ⟨j, n1, n2, nm, l, b, _, _, hb, rfl⟩ := chn_mem hc a ha
  exact hRB _ _ _ _ _ hb
 | auto h =>
  obtain ⟨nn, ar, _, _, hc, rfl⟩ := h
  intro q hq
  rw [List.mem_singleton] at hq
  subst hq
  refine ⟨fun h => (by cases h), fun a ha => ?_⟩
  obtain ⟨j, n1, n2, l, u, b, w, _, _, _, hb, _, rfl⟩ := chn_mem hc a ha
  exact hRB _ _ _ _ _ hb
 | reset h =>
  obtain ⟨e, b, he, hb, rfl⟩ := h
  intro q hq
  rw [List.mem_singleton] at hq
  subst hq
  refine ⟨fun h => (by cases h), fun a ha => ?_⟩
  have ha' : a ∈ [Am.mk sE b.vars b.eqs [] [] 0 0] := ha
  rw [List.mem_singleton] at ha'
  subst ha'
  exact hRB _ _ _ _ _ hb
 | call h _ ih =>
  obtain ⟨j, a, b, hb, e, hj, rfl, rfl, _, _, _, rfl⟩ := h
  intro q hq
  rcases List.mem_cons.1 hq with rfl | hq
  ·exact ⟨fun _ => fS_mem (by omega), fun a ha => by simp [Qu.arms] at ha⟩
  ·exact ih q hq
 | samp h _ ih =>
  obtain ⟨e1, e2, e3, k1, kp, rfl, rfl, rfl, _, _, _, _, _, rfl, rfl, rfl⟩ := h
  intro q hq
  rcases List.mem_cons.1 hq with rfl | hq
  ·exact ⟨fun h => (by cases h), fun a ha => by simp [defQ, Qu.arms] at ha⟩
  rcases List.mem_cons.1 hq with rfl | hq
  ·exact ⟨fun h => (by cases h), fun a ha => by simp [defQ, Qu.arms] at ha⟩
  rcases List.mem_cons.1 hq with rfl | hq
  ·exact ⟨fun h => (by cases h), fun a ha => by simp [defQ, Qu.arms] at ha⟩
  ·exact ih q hq
theorem todo_ca {n n' : Nat} {s : Sc} {outs : List Va} {l : List Qu} {vs : List Va} (h : GTodo (GEqs RB (k : Int)) n n' s outs l vs) : ∀ q ∈ l, CaQ (fS k) PC q := by
 induction h with
 | nil => intro q hq; simp at hq
 | step _ _ h _ ih =>
  intro q hq
  rcases List.mem_append.1 hq with hq | hq
  ·exact eqs_ca hRB h q hq
  ·exact ih q hq
theorem blk_ca {n n' : Nat} {s : Sc} {outs : List Va} {b : Bk} (h : GBlk (GEqs RB (k : Int)) n n' s outs b) : ∀ q ∈ b.eqs, CaQ (fS k) PC q := by
 obtain ⟨own, l, vs, _, _, ht, rfl⟩ := h
 exact todo_ca hRB ht
end
theorem bk_ca {k : Nat} : ∀ (d : Nat) (n n' : Nat) (s : Sc) (outs : List Va) (b : Bk), GBk d (k : Int) n n' s outs b → CaB (fS k) d b.eqs
 | 0, n, n', s, outs, b, h => blk_ca (fun _ _ _ _ _ h => h.elim) h
 | d + 1, n, n', s, outs, b, h => blk_ca (fun n n' s outs b h => bk_ca d n n' s outs b h) h
end Go.Proofs.YteiaedmipkcfeaaDoor

/-
 names.Check of a program that is right.
-/
set_option linter.unusedVariables false
set_option linter.unusedSimpArgs false
namespace Go.Proofs.YteiaedmipkcfeaaDoor
open Nat renaming reduceEqDiff → jA, reduceAdd → jB, reduceMul → jC, reduceLT → jD, reduceLeDiff → jE, reduceBEq → jF, reduceBNe → jG
open Int renaming reduceLE → jH, reduceLT → jI, reduceToNat → jJ, reduceEq → jK
open Go
set_option maxRecDepth 20000


theorem DRet.mono {P : Program} {h : FuncId} {args : List PV} {m : M} {Q Q' : M → Prop} (hd : DRet P h args m Q) (hq : ∀ m', Q m' → Q' m') : DRet P h args m Q' := fun G w vs a b c => (hd G w vs a b c).mono (by rintro e u w' ⟨h1, h2, m', G', h3, h4, h5⟩; exact ⟨h1, h2, m', G', hq _ h3, h4, h5⟩)
set_option maxHeartbeats 2000000 in
theorem clo_ret (x : PV) (m : M) : DRet Tryd.prog 21 [x] m (fun m' => m' = m) := by
 refine DRet.of (mu := []) ok_mix Tryd.func21 rfl rfl ⟨rfl, rfl, rfl⟩ (by kernel_rfl) (by decide) (by simp only [List.length_cons, List.length_nil, Tryd.ntmps21]; omega) ?_
 (repeat (first | refine aSeq fun X hX => ?_ | apply aBlk | refine aSkip ?_ | (first | refine aExit ?_ | refine aRet ?_); try simp only [slx, ↓reduceIte, jA, reduceCtorEq] | (first | apply aReg | refine aDrE ?_); simp -implicitDefEqProofs only [↓slp, ↓reduceIte, reduceCtorEq, jA, jF, Ya] | apply hX; clear hX X | clear hX X; apply hX; clear hX X | intro hlen; unfold maxLen at hlen | apply And.intro; · first | assumption | and_intros <;> first | omega | assumption))
 refine aIf ?_; simp -implicitDefEqProofs only [↓slp, slb, ↓reduceIte, reduceCtorEq, jA, jF]
 (repeat (first | refine aSeq fun X hX => ?_ | apply aBlk | refine aSkip ?_ | (first | refine aExit ?_ | refine aRet ?_); try simp only [slx, ↓reduceIte, jA, reduceCtorEq] | (first | apply aReg | refine aDrE ?_); simp -implicitDefEqProofs only [↓slp, ↓reduceIte, reduceCtorEq, jA, jF, Ya] | apply hX; clear hX X | clear hX X; apply hX; clear hX X | intro hlen; unfold maxLen at hlen | apply And.intro; · first | assumption | and_intros <;> first | omega | assumption))
theorem fS_mono {j k : Nat} (h : j ≤ k) : ∀ z ∈ fS j, z ∈ fS k := fun z hz => by
 obtain ⟨i, hi, rfl⟩ := fS_of hz
 exact fS_mem (by omega)
theorem CallsC.mono {S T : List Str} {cf : List Qu → List Str} {Q : List Qu} (h : CallsC S cf Q) (hs : ∀ z ∈ S, z ∈ T) : CallsC T cf Q := ⟨h.1, h.2.1, fun x hx => hs x (h.2.2 x hx)⟩
theorem addL_sub {T : List Str} : ∀ (r l : List Str), (∀ z ∈ l, z ∈ T) → (∀ z ∈ r, z ∈ T) → ∀ z ∈ addL l r, z ∈ T
 | [], l, hl, hr => hl
 | s :: r, l, hl, hr => addL_sub r (addS l s) (fun z hz => by
     rcases addS_mem hz with h | rfl
     ·exact hl z h
     ·exact hr _ (List.mem_cons_self ..)) (fun z hz => hr z (List.mem_cons_of_mem _ hz))
theorem needs_sub {cf : Str → List Str} {T : List Str} (hT : ∀ x ∈ T, ∀ z ∈ cf x, z ∈ T) : ∀ (g : Nat) (l todo : List Str), (∀ z ∈ l, z ∈ T) → (∀ x ∈ todo, ∀ z ∈ cf x, z ∈ T) → ∀ z ∈ needsN cf g l todo, z ∈ T
 | 0, l, todo, hl, ht => by unfold needsN; exact hl
 | g + 1, l, [], hl, ht => by unfold needsN; exact hl
 | g + 1, l, x :: todo, hl, ht => by
  unfold needsN
  have h1 := addL_sub (cf x) l hl (ht x (List.mem_cons_self ..))
  refine needs_sub hT g _ _ h1 (fun y hy => ?_)
  rcases List.mem_append.1 hy with hy | hy
  ·exact ht y (List.mem_cons_of_mem _ hy)
  ·exact hT y (h1 y (List.mem_of_mem_drop hy))
/-- A program that is right. -/
def NsOk (ns : List No) : Prop := NsN ns ∧ (∀ n ∈ ns, NdN ns n) ∧ ∀ k (h : k < ns.length), CaB (fS k) 3 ns[k].b.eqs
theorem ns_find {ns : List No} (hns : NsN ns) {x : Str} {n : No} (h : ns.find? (fun n => eqS n.name x) = some n) : ∃ j, ∃ hj : j < ns.length, n = ns[j] ∧ x = nameS ⟨#[102]⟩ j := by
 obtain ⟨j, hj, rfl⟩ := List.getElem_of_mem (List.mem_of_find?_eq_some h)
 have h2 := List.find?_some h
 rw [eqS_iff, hns.2 j hj] at h2
 exact ⟨j, hj, rfl, h2.symm⟩
theorem ns_calls {ns : List No} (h : NsOk ns) {k : Nat} (hk : k < ns.length) : CallsC (fS ns.length) (callsF 3) ns[k].b.eqs ∧ ∀ z ∈ callsF 3 ns[k].b.eqs, z ∈ fS k := by
 have h3 := h.1.1
 have h1 := calls_any (S := fS k) (by rw [fS_len]; omega) 3 _ (h.2.2 k hk)
 exact ⟨h1.mono (fS_mono (by omega)), h1.2.2⟩
theorem ns_needs {ns : List No} (h : NsOk ns) {k : Nat} (hk : k < ns.length) (g : Nat) : nameS ⟨#[102]⟩ k ∉ needsN (cfN 3 ns) g [] [nameS ⟨#[102]⟩ k] := fun hm => by
 have hcf : ∀ j, j ≤ k → ∀ z ∈ cfN 3 ns (nameS ⟨#[102]⟩ j), z ∈ fS k := fun j hj z hz => by
  unfold cfN at hz
  split at hz
  ·rename_i n hn
   obtain ⟨i, hi, rfl, he⟩ := ns_find h.1 hn
   obtain rfl := (nm_inj he).2
   exact fS_mono hj z ((ns_calls h hi).2 z hz)
  ·simp at hz
 have := needs_sub (cf := cfN 3 ns) (T := fS k) (fun x hx => by
  obtain ⟨j, hj, rfl⟩ := fS_of hx
  exact hcf j (by omega)) g [] [nameS ⟨#[102]⟩ k] (fun z hz => by simp at hz) (fun x hx => by
  rw [List.mem_singleton] at hx
  subst hx
  exact hcf k (Nat.le_refl _)) _ hm
 exact fS_not this
set_option maxHeartbeats 8000000 in
theorem checkN_any (ns : List No) (hT : NsOk ns) (m : M) :
    ACalls Tryd.prog 8 [.ag [.sl .no [.ag colC], .sl .no (ns.map No.pv)]] m (fun v m' => v = .v .nilIface ∧ m' = m) := by
 refine ACalls.leave (R := fun v m' => v = .v .nilIface ∧ m' = m.ext [some [.v .nilIface]]) ?_ (fun v m' ⟨h1, h2⟩ => by subst h1 h2; exact leave_ext rfl ⟨rfl, rfl⟩)
 have hln := hT.1.1
 have hnd := fun (n : No) (hn : n ∈ ns) m => nodeN_any ns hT.1 n (hT.2.1 n hn) m
 have hen := fun m => enumsN_any ns m
 have hfn := fun (k : Nat) (hk : k < ns.length) m => findNode_nm [.ag colC] hT.1 hk m
 have hnm := hT.1.2
 have hne := fun (s : Str) m => needs_any (S := fS ns.length) (by rw [fS_len]; omega) 3 [.ag colC] ns (fun n hn => by
  obtain ⟨k, hk, rfl⟩ := List.getElem_of_mem hn
  exact (ns_calls hT hk).1) s m
 have hnn := fun (k : Nat) (hk : k < ns.length) => hasS_no (ns_needs hT hk (2 * (fS ns.length).length + 1))
 have hct := fun (o : Own) (l : List Str) (s : Str) (m : M) => contains_any o l s m
 unfold lkP colC at *
 obtain ⟨Xf, hXf⟩ : ∃ Xf : F → M → Prop, ∀ f1 m1, Xf f1 m1 = ((f1 1 = .ep [.sl .no [.ag [.v (.string sCol), .sl .no [pS sRed, pS sGreen, pS sBlue], .v (.int .i64 0), .v (.int .i64 0)]], .sl .no (ns.map No.pv)] ∧ f1 2 = .bp m.nb 0) ∧ m1 = m.ext [some [.v .nilIface]]) := ⟨_, fun _ _ => rfl⟩
 refine ACalls.enterDL (mu := [2]) (l := [_]) (kps := [2]) ok_mix Tryd.func8 rfl (by kernel_rfl) (by kernel_rfl) ⟨rfl, rfl, rfl⟩ ⟨rfl, rfl, rfl, rfl, rfl⟩ ?_ (fun kv => by rw [bd_kv _ _ kv (fun _ => undef)]; kernel_rfl) ⟨by decide, by decide⟩ (by simp only [List.length_cons, List.length_nil, Tryd.ntmps8]; omega) Xf ?_ ?_
 ·intro A hA
  simp only [List.mem_cons, List.not_mem_nil, or_false] at hA
  rcases hA with rfl
  kernel_rfl
 ·unfold aPre
  (repeat (first | refine aSeq fun X hX => ?_ | apply aBlk | refine aSkip ?_ | (first | refine aExit ?_ | refine aRet ?_); try simp only [slx, ↓reduceIte, jA, reduceCtorEq] | (first | apply aReg | refine aDrE ?_); simp -implicitDefEqProofs only [↓slp, ↓reduceIte, reduceCtorEq, jA, jF, Ya] | apply hX; clear hX X | clear hX X; apply hX; clear hX X | intro hlen; unfold maxLen at hlen | apply And.intro; · first | assumption | and_intros <;> first | omega | assumption))
  show Xf _ _
  rw [hXf]
  exact ⟨⟨rfl, rfl⟩, rfl⟩
 ·intro f1 m1 hx
  rw [hXf] at hx
  obtain ⟨⟨f1', f2⟩, rfl⟩ := hx
  have hargs : (#[Operand.tmp 2] : Array Operand).toList.map (ev f1) = [.bp m.nb 0] := by
   simp only [List.map_cons, List.map_nil, ev_tmp, f2]
  have k2 : (F.only [2] f1) 2 = .bp m.nb 0 := by unfold F.only; rw [if_pos (by simp)]; exact f2
  refine ⟨fun m2 => m2 = m.ext [some [.v .nilIface]], fun _ _ => False, ?_, ?_, fun v m2 h => h.elim⟩
  ·obtain ⟨ms, hms⟩ : ∃ ms, m.ext [some [.v .nilIface]] = ms := ⟨_, rfl⟩
   have hup : ∀ c, (m.ext [some [.v .nilIface]]).upd m.nb c = m.ext [some c] := fun c => by simp [ext_upd0]
   rw [hms]
   (repeat (first | refine aSeq fun X hX => ?_ | apply aBlk | refine aSkip ?_ | (first | refine aExit ?_ | refine aRet ?_); try simp only [slx, ↓reduceIte, jA, reduceCtorEq] | (first | apply aReg | apply aIf); simp -implicitDefEqProofs only [↓slp, ↓reduceIte, reduceCtorEq, jA, jF, Ya, f1', f2] | apply hX; clear hX X | clear hX X; apply hX; clear hX X | intro hlen; unfold maxLen at hlen | apply And.intro; · first | assumption | and_intros <;> first | omega | assumption))
   refine callE (hen _) ?_
   simp -implicitDefEqProofs only [↓slp, ↓reduceIte, reduceCtorEq, jA, jF, Ya]
   (repeat (first | refine aSeq fun X hX => ?_ | apply aBlk | refine aSkip ?_ | (first | refine aExit ?_ | refine aRet ?_); try simp only [slx, ↓reduceIte, jA, reduceCtorEq] | (first | apply aReg | apply aIf); simp -implicitDefEqProofs only [↓slp, ↓reduceIte, reduceCtorEq, jA, jF, Ya, f1', f2] | apply hX; clear hX X | clear hX X; apply hX; clear hX X | intro hlen; unfold maxLen at hlen | apply And.intro; · first | assumption | and_intros <;> first | omega | assumption))
   obtain ⟨I, hI⟩ : ∃ I : F → M → Prop, ∀ f m', I f m' = (∃ (k : Nat), k ≤ ns.length ∧ f 1 = .ep [.sl .no [.ag [.v (.string sCol), .sl .no [pS sRed, pS sGreen, pS sBlue], .v (.int .i64 0), .v (.int .i64 0)]], .sl .no (ns.map No.pv)] ∧ f 2 = .bp m.nb 0 ∧ f 3 = .ep [.sl .no [.ag [.v (.string sCol), .sl .no [pS sRed, pS sGreen, pS sBlue], .v (.int .i64 0), .v (.int .i64 0)]], .sl .no (ns.map No.pv)] ∧ f 17 = .sl .no (ns.map No.pv) ∧ f 18 = pI ns.length ∧ f 19 = pI k ∧ ms = m') := ⟨_, fun _ _ => rfl⟩
   refine aLoop I (fun f m => ns.length - numOf (f 19)) ?_ ?_
   ·rw [hI]; exact ⟨0, by omega, f1', f2, rfl, rfl, rfl, rfl, rfl⟩
   clear f1' f2
   intro f m' hrel
   rw [hI] at hrel
   obtain ⟨k, hk, f1', f2, f3, f17, f18, f19, rfl⟩ := hrel
   cases c1 : decide ((k : Int) < (ns.length : Int)) with
   | true =>
    have hlt : k < ns.length := by simpa using c1
    have g0 := getD_map No.pv ns k hlt
    have hi : IntKind.i64.wrap ((k : Int) + 1) = ((k + 1 : Nat) : Int) := by rw [wrap64 (by omega)]; omega
    have hme : numOf (f 19) = k := by rw [f19]; exact Int.toNat_natCast k
    have hf := hfn k hlt
    have dk : decide ((k : Int) < (k : Int)) = false := by simp
    rw [← hnm k hlt] at hf
    generalize ns[k] = n at *
    (repeat (first | refine aSeq fun X hX => ?_ | apply aBlk | refine aSkip ?_ | (first | refine aExit ?_ | refine aRet ?_); try simp only [slx, ↓reduceIte, jA, reduceCtorEq] | (first | apply aReg | apply aIf); simp -implicitDefEqProofs only [↓slp, ↓reduceIte, reduceCtorEq, jA, jF, Ya, f1', f2, f3, f17, f18, f19, pI, c1, g0] | apply hX; clear hX X | clear hX X; apply hX; clear hX X | intro hlen; unfold maxLen at hlen | apply And.intro; · first | assumption | and_intros <;> first | omega | assumption))
    refine callE (hf _) ?_
    simp -implicitDefEqProofs only [↓slp, ↓reduceIte, reduceCtorEq, jA, jF, Ya, pI, dk]
    (repeat (first | refine aSeq fun X hX => ?_ | apply aBlk | refine aSkip ?_ | (first | refine aExit ?_ | refine aRet ?_); try simp only [slx, ↓reduceIte, jA, reduceCtorEq] | (first | apply aReg | apply aIf); simp -implicitDefEqProofs only [↓slp, ↓reduceIte, reduceCtorEq, jA, jF, Ya, f19, pI, hi, dk] | apply hX; clear hX X | clear hX X; apply hX; clear hX X | intro hlen; unfold maxLen at hlen | apply And.intro; · first | assumption | and_intros <;> first | omega | assumption))
    rw [hI]
    exact ⟨⟨k + 1, hlt, f1', f2, f3, f17, f18, rfl, rfl⟩, by omega⟩
   | false =>
    (repeat (first | refine aSeq fun X hX => ?_ | apply aBlk | refine aSkip ?_ | (first | refine aExit ?_ | refine aRet ?_); try simp only [slx, ↓reduceIte, jA, reduceCtorEq] | (first | apply aReg | apply aIf); simp -implicitDefEqProofs only [↓slp, ↓reduceIte, reduceCtorEq, jA, jF, Ya, f1', f2, f3, f17, f18, f19, pI, c1] | apply hX; clear hX X | clear hX X; apply hX; clear hX X | intro hlen; unfold maxLen at hlen | apply And.intro; · first | assumption | and_intros <;> first | omega | assumption))
    obtain ⟨J, hJ⟩ : ∃ J : F → M → Prop, ∀ f m', J f m' = (∃ (k : Nat), k ≤ ns.length ∧ f 1 = .ep [.sl .no [.ag [.v (.string sCol), .sl .no [pS sRed, pS sGreen, pS sBlue], .v (.int .i64 0), .v (.int .i64 0)]], .sl .no (ns.map No.pv)] ∧ f 2 = .bp m.nb 0 ∧ f 3 = .ep [.sl .no [.ag [.v (.string sCol), .sl .no [pS sRed, pS sGreen, pS sBlue], .v (.int .i64 0), .v (.int .i64 0)]], .sl .no (ns.map No.pv)] ∧ f 35 = .sl .no (ns.map No.pv) ∧ f 36 = pI ns.length ∧ f 37 = pI k ∧ ms = m') := ⟨_, fun _ _ => rfl⟩
    refine aLoop J (fun f m => ns.length - numOf (f 37)) ?_ ?_
    ·rw [hJ]; exact ⟨0, by omega, f1', f2, f3, rfl, rfl, rfl, rfl⟩
    clear f1' f2 f3 f17 f18 f19
    intro f m' hrel
    rw [hJ] at hrel
    obtain ⟨k, hk, f1', f2, f3, f35, f36, f37, rfl⟩ := hrel
    cases c2 : decide ((k : Int) < (ns.length : Int)) with
    | true =>
     have hlt : k < ns.length := by simpa using c2
     have g0 := getD_map No.pv ns k hlt
     have hi : IntKind.i64.wrap ((k : Int) + 1) = ((k + 1 : Nat) : Int) := by rw [wrap64 (by omega)]; omega
     have hme : numOf (f 37) = k := by rw [f37]; exact Int.toNat_natCast k
     have hd := hnd ns[k] (List.getElem_mem hlt)
     generalize ns[k] = n at *
     (repeat (first | refine aSeq fun X hX => ?_ | apply aBlk | refine aSkip ?_ | (first | refine aExit ?_ | refine aRet ?_); try simp only [slx, ↓reduceIte, jA, reduceCtorEq] | (first | apply aReg | apply aIf); simp -implicitDefEqProofs only [↓slp, ↓reduceIte, reduceCtorEq, jA, jF, Ya, f1', f2, f3, f35, f36, f37, pI, c2, g0] | apply hX; clear hX X | clear hX X; apply hX; clear hX X | intro hlen; unfold maxLen at hlen | apply And.intro; · first | assumption | and_intros <;> first | omega | assumption))
     refine callMS (hd _) (by simp only [List.map_cons, List.map_nil, PV.settle, PV.settles, No.settle_pv]; rfl) ?_
     rintro v mc ⟨rfl, hmc⟩
     subst hmc
     simp -implicitDefEqProofs only [↓slp, ↓reduceIte, reduceCtorEq, jA, jF, Ya]
     (repeat (first | refine aSeq fun X hX => ?_ | apply aBlk | refine aSkip ?_ | (first | refine aExit ?_ | refine aRet ?_); try simp only [slx, ↓reduceIte, jA, reduceCtorEq] | (first | apply aReg | apply aIf); simp -implicitDefEqProofs only [↓slp, ↓reduceIte, reduceCtorEq, jA, jF, Ya, f37, pI, hi] | apply hX; clear hX X | clear hX X; apply hX; clear hX X | intro hlen; unfold maxLen at hlen | apply And.intro; · first | assumption | and_intros <;> first | omega | assumption))
     rw [hJ]
     exact ⟨⟨k + 1, hlt, f1', f2, f3, f35, f36, rfl, rfl⟩, by omega⟩
    | false =>
     (repeat (first | refine aSeq fun X hX => ?_ | apply aBlk | refine aSkip ?_ | (first | refine aExit ?_ | refine aRet ?_); try simp only [slx, ↓reduceIte, jA, reduceCtorEq] | (first | apply aReg | apply aIf); simp -implicitDefEqProofs only [↓slp, ↓reduceIte, reduceCtorEq, jA, jF, Ya, f1', f2, f3, f35, f36, f37, pI, c2] | apply hX; clear hX X | clear hX X; apply hX; clear hX X | intro hlen; unfold maxLen at hlen | apply And.intro; · first | assumption | and_intros <;> first | omega | assumption))
     obtain ⟨K, hK⟩ : ∃ K : F → M → Prop, ∀ f m', K f m' = (∃ (k : Nat), k ≤ ns.length ∧ f 1 = .ep [.sl .no [.ag [.v (.string sCol), .sl .no [pS sRed, pS sGreen, pS sBlue], .v (.int .i64 0), .v (.int .i64 0)]], .sl .no (ns.map No.pv)] ∧ f 2 = .bp m.nb 0 ∧ f 46 = .sl .no (ns.map No.pv) ∧ f 47 = pI ns.length ∧ f 48 = pI k ∧ ms = m') := ⟨_, fun _ _ => rfl⟩
     refine aLoop K (fun f m => ns.length - numOf (f 48)) ?_ ?_
     ·rw [hK]; exact ⟨0, by omega, f1', f2, rfl, rfl, rfl, rfl⟩
     clear f1' f2 f3 f35 f36 f37
     intro f m' hrel
     rw [hK] at hrel
     obtain ⟨k, hk, f1', f2, f46, f47, f48, rfl⟩ := hrel
     cases c3 : decide ((k : Int) < (ns.length : Int)) with
     | true =>
      have hlt : k < ns.length := by simpa using c3
      have g0 := getD_map No.pv ns k hlt
      have hi : IntKind.i64.wrap ((k : Int) + 1) = ((k + 1 : Nat) : Int) := by rw [wrap64 (by omega)]; omega
      have hme : numOf (f 48) = k := by rw [f48]; exact Int.toNat_natCast k
      have hnx := hne ns[k].name
      have hnk := hnn k hlt
      rw [← hnm k hlt] at hnk
      generalize ns[k] = n at *
      generalize needsN (cfN 3 ns) (2 * (fS ns.length).length + 1) [] [n.name] = R at *
      have hcc := hct .no R n.name
      rw [hnk] at hcc
      (repeat (first | refine aSeq fun X hX => ?_ | apply aBlk | refine aSkip ?_ | (first | refine aExit ?_ | refine aRet ?_); try simp only [slx, ↓reduceIte, jA, reduceCtorEq] | (first | apply aReg | apply aIf); simp -implicitDefEqProofs only [↓slp, ↓reduceIte, reduceCtorEq, jA, jF, Ya, f1', f2, f46, f47, f48, pI, c3, g0] | apply hX; clear hX X | clear hX X; apply hX; clear hX X | intro hlen; unfold maxLen at hlen | apply And.intro; · first | assumption | and_intros <;> first | omega | assumption))
      (repeat (first | refine aSeq fun X hX => ?_ | apply aBlk | refine aSkip ?_ | (first | refine aExit ?_ | refine aRet ?_); try simp only [slx, ↓reduceIte, jA, reduceCtorEq] | (first | apply aReg | refine aDrE ?_ | apply aIf); simp -implicitDefEqProofs only [↓slp, ↓reduceIte, reduceCtorEq, jA, jF, Ya, f1', f2, f46, f47, f48, pI, c3, g0] | apply hX; clear hX X | clear hX X; apply hX; clear hX X | intro hlen; unfold maxLen at hlen | apply And.intro; · first | assumption | and_intros <;> first | omega | assumption))
      refine callM (hnx _) ?_
      rintro v mc ⟨rfl, _, hmc⟩
      subst hmc
      simp -implicitDefEqProofs only [↓slp, ↓reduceIte, reduceCtorEq, jA, jF, Ya]
      (repeat (first | refine aSeq fun X hX => ?_ | apply aBlk | refine aSkip ?_ | (first | refine aExit ?_ | refine aRet ?_); try simp only [slx, ↓reduceIte, jA, reduceCtorEq] | (first | apply aReg | refine aDrE ?_ | apply aIf); simp -implicitDefEqProofs only [↓slp, ↓reduceIte, reduceCtorEq, jA, jF, Ya] | apply hX; clear hX X | clear hX X; apply hX; clear hX X | intro hlen; unfold maxLen at hlen | apply And.intro; · first | assumption | and_intros <;> first | omega | assumption))
      refine callE (hcc _) ?_
      simp -implicitDefEqProofs only [↓slp, ↓reduceIte, reduceCtorEq, jA, jF, Ya, pB]
      (repeat (first | refine aSeq fun X hX => ?_ | apply aBlk | refine aSkip ?_ | (first | refine aExit ?_ | refine aRet ?_); try simp only [slx, ↓reduceIte, jA, reduceCtorEq] | (first | apply aReg | apply aIf); simp -implicitDefEqProofs only [↓slp, ↓reduceIte, reduceCtorEq, jA, jF, Ya, f48, pI, hi] | apply hX; clear hX X | clear hX X; apply hX; clear hX X | intro hlen; unfold maxLen at hlen | apply And.intro; · first | assumption | and_intros <;> first | omega | assumption))
      rw [hK]
      exact ⟨⟨k + 1, hlt, f1', f2, f46, f47, rfl, rfl⟩, by omega⟩
     | false =>
      rw [← hms]
      (repeat (first | refine aSeq fun X hX => ?_ | apply aBlk | refine aSkip ?_ | (first | refine aExit ?_ | refine aRet ?_); try simp only [slx, ↓reduceIte, jA, reduceCtorEq] | (first | apply aReg | apply aIf); simp -implicitDefEqProofs only [↓slp, ↓reduceIte, reduceCtorEq, jA, jF, Ya, f2, f46, f47, f48, pI, c3] | apply hX; clear hX X | clear hX X; apply hX; clear hX X | intro hlen; unfold maxLen at hlen | apply And.intro; · first | assumption | and_intros <;> first | omega | assumption))
      exact ⟨.inr trivial, hms⟩
  ·rintro m2 rfl
   rw [hargs]
   refine (clo_ret _ _).mono ?_
   rintro m3 rfl
   simp only [Tryd.results8, aRes_n, aRes_t, aRes_c]
   simp -implicitDefEqProofs only [↓slp, ↓reduceIte, reduceCtorEq, jA, jF, Ya, k2]
   try exact ⟨rfl, rfl⟩
end Go.Proofs.YteiaedmipkcfeaaDoor
