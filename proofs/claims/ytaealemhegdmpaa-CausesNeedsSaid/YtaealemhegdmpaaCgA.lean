/-
 Texts that belong together: CsL, CsG.
-/
-- halved
import Derived.Test.YtaealemhegdmpaaNvA
import Derived.Test.YtaealemhegdmpaaSlcX
import Derived.Test.YtaealemhegdmpaaAbMk8c
import Derived.Test.YtaealemhegdmpaaExA
import Derived.Test.YtaealemhegdmpaaAbCnt
/-
 Lists of numbers: Index, Contains, Concat, Clone.
-/
set_option linter.unusedVariables false
set_option linter.unusedSimpArgs false
namespace Go.Proofs.Ytaealemhegdmpaa
open Nat renaming reduceEqDiff → jA, reduceAdd → jB, reduceMul → jC, reduceLT → jD, reduceLeDiff → jE, reduceBEq → jF, reduceBNe → jG
open Int renaming reduceLE → jH, reduceLT → jI, reduceToNat → jJ, reduceEq → jK
open Go
set_option maxRecDepth 20000
-- TNAMES: int; uint8; int32; string; bool; []int; [][]int


theorem ints_one (l : List Int) : ∀ x ∈ l.map pI, x.cells.length = 1 := fun x hx => by
 obtain ⟨s, _, rfl⟩ := List.mem_map.1 hx
 rfl
set_option maxHeartbeats 400000 in
theorem indexJ_any (o : Own) (l : List Int) (s : Int) (m : M) : ACalls Try.prog 67 [.sl o (l.map pI), pI s] m (fun v m' => v = pI (idxF (fun a => s == a) l 0) ∧ m' = m) := by
 refine ACalls.enter (mu := []) ok_mix Try.func67 rfl (by kernel_rfl) (by kernel_rfl) (by simp only [List.length_cons, List.length_nil, Try.ntmps67]; omega) ?_
 (repeat (first | refine aSeq fun X hX => ?_ | refine aBlk ?_ | refine aReg ?_; simp -implicitDefEqProofs only [↓slp, ↓reduceIte, reduceCtorEq, Y0] | apply hX; clear hX X | intro hlen; unfold maxLen at hlen))
 obtain ⟨I, hI⟩ : ∃ I : F → M → Prop, ∀ f m', I f m' = (∃ k : Nat, k ≤ l.length ∧ f 0 = .sl o (l.map pI) ∧ f 1 = pI s ∧ f 7 = pI l.length ∧ f 8 = pI k ∧ idxF (fun a => s == a) l 0 = idxF (fun a => s == a) (l.drop k) k ∧ m' = m) := ⟨_, fun _ _ => rfl⟩
 refine aLoop I (fun f m => l.length - numOf (f 8)) ?_ ?_
 ·rw [hI]; exact ⟨0, by omega, rfl, rfl, rfl, rfl, rfl, rfl⟩
 intro f m' hrel
 rw [hI] at hrel
 obtain ⟨k, hk, h0, h1, h7, h8, hs, rfl⟩ := hrel
 (repeat (first | refine aSeq fun X hX => ?_ | refine aReg ?_; simp -implicitDefEqProofs only [↓slp, slb, ↓reduceIte, h7, h8, pI] | apply hX; clear hX X))
 refine aIf ?_; simp -implicitDefEqProofs only [slb, ↓reduceIte]; refine ⟨fun hb => ?_, fun hb => ?_⟩
 ·have hlt : k < l.length := by simpa using hb
  have g0 := getD_map pI l k hlt
  have hi : IntKind.i64.wrap ((k : Int) + 1) = ((k + 1 : Nat) : Int) := by rw [wrap64 (by omega)]; omega
  have hd := idxF_drop (p := fun a => s == a) hlt
  cases c1 : (s == l[k]) with
  | true =>
   (repeat (first | refine aSeq fun X hX => ?_ | refine aSkip ?_ | refine aReg ?_; simp -implicitDefEqProofs only [↓slp, ↓reduceIte, reduceCtorEq, jA, jB, Y0, h0, h1, h8, pI, g0, c1] | apply hX; clear hX X | apply And.intro; focus omega))
   refine aIf ?_; simp -implicitDefEqProofs only [slb, ↓reduceIte, reduceCtorEq]
   (repeat (first | refine aSeq fun X hX => ?_ | refine aRet ?_; try simp only [slx, ↓reduceIte, jA, reduceCtorEq] | refine aReg ?_; simp -implicitDefEqProofs only [↓slp, slb, ↓reduceIte, jA] | apply hX; clear hX X))
   simp only [aPost, Try.results67, aRes_n, aRes_t, aRes_c, pack_one, pack_two]
   refine leave_same rfl ⟨?_, rfl⟩
   have hv : idxF (fun a => s == a) l 0 = (k : Int) := by rw [hs, hd]; simp [c1]
   rw [hv]; rfl
  | false =>
   (repeat (first | refine aSeq fun X hX => ?_ | refine aSkip ?_ | refine aReg ?_; simp -implicitDefEqProofs only [↓slp, ↓reduceIte, reduceCtorEq, jA, jB, Y0, h0, h1, h8, pI, g0, c1] | apply hX; clear hX X | apply And.intro; focus omega))
   refine aIf ?_; simp -implicitDefEqProofs only [slb, ↓reduceIte]
   (repeat (first | refine aSkip ?_ | refine aReg ?_; simp -implicitDefEqProofs only [↓slp, slb, ↓reduceIte, jA, h8, pI, hi] | apply hX; clear hX X))
   rw [hI]
   refine ⟨⟨k + 1, hlt, h0, h1, h7, rfl, by rw [hs, hd]; simp [c1], rfl⟩, ?_⟩
   first | omega | (simp only [↓slp, slb, ↓reduceIte, reduceCtorEq, jA, jB, jC, jD, jE, jF, jG, jH, jI, jJ, jK, h8, pI]; omega)
 ·have hlt : k = l.length := by simp at hb; omega
  subst hlt
  (repeat (first | refine aSeq fun X hX => ?_ | (first | refine aExit ?_ | refine aRet ?_); try simp only [slx, ↓reduceIte, jA, reduceCtorEq] | refine aReg ?_; simp -implicitDefEqProofs only [↓slp, slb] | apply hX; clear hX X | clear hX X; apply hX; clear hX X))
  simp only [aPost, Try.results67, aRes_n, aRes_t, aRes_c, pack_one, pack_two]
  refine leave_same rfl ⟨?_, rfl⟩
  have hv : idxF (fun a => s == a) l 0 = -1 := by rw [hs]; simp [idxF]
  rw [hv]; rfl
theorem idxJ_mem (s : Int) (l : List Int) : decide (0 ≤ idxF (fun a => s == a) l 0) = decide (s ∈ l) := by
 rcases idxF_at (p := fun a => s == a) l 0 with ⟨h1, h2⟩ | ⟨k, hk, h1, h2, _⟩
 ·rw [h1]
  have : ¬ s ∈ l := fun hm => by have := h2 s hm; simp at this
  simp [this]
 ·rw [h1]
  have : s ∈ l := by
   have : s = l[k] := by simpa using h2
   rw [this]; exact List.getElem_mem hk
  simp [this]
set_option maxHeartbeats 400000 in
theorem containsJ_any (o : Own) (l : List Int) (s : Int) (m : M) : ACalls Try.prog 56 [.sl o (l.map pI), pI s] m (fun v m' => v = pB (decide (s ∈ l)) ∧ m' = m) := by
 rw [← idxJ_mem]
 refine ACalls.enter (mu := []) ok_mix Try.func56 rfl (by kernel_rfl) (by kernel_rfl) (by simp only [List.length_cons, List.length_nil, Try.ntmps56]; omega) ?_
 (repeat (first | refine aSeq fun X hX => ?_ | refine aReg ?_; simp -implicitDefEqProofs only [↓slp, slb, ↓reduceIte, reduceCtorEq, jA] | apply hX; clear hX X))
 refine callE (indexJ_any _ _ _ _) ?_
 simp -implicitDefEqProofs only [↓slp, slb, ↓reduceIte, pI]
 (repeat (first | refine aRet ?_ | apply hX; clear hX X))
 simp only [aPost, Try.results56, aRes_n, aRes_t, aRes_c, pack_one, pack_two]
 exact leave_same rfl ⟨rfl, rfl⟩
theorem appT {m m' : M} {o : Own} {s : Nat} (h : Toks m m') (g : Mine m m' o s) : App m .full s m' o := by
 refine ⟨h.boxes, g.free, ?_, h.nt⟩
 rcases g with rfl | ⟨t, rfl, ht, _⟩
 ·exact h.toks
 ·show (m'.toks.set t none).take m.nt = _
  rw [List.take_set_of_le ht]
  exact h.toks
def pLJ (l : List Int) : PV := .sl .no (l.map pI)
theorem lists_lenJ {α : Type} (l : List (List α)) (k : Nat) : (l.take k).flatten.length ≤ l.flatten.length := by
 conv => rhs; rw [← List.take_append_drop k l, List.flatten_append, List.length_append]
 omega
set_option maxHeartbeats 2000000 in
theorem concatJ_any (o : Own) (ls : List (List Int)) (m : M) (hb : ls.flatten.length < 2 ^ 30) : ACalls Try.prog 57 [.sl o (ls.map pLJ)] m (fun v m' => v = .sl (.tok m.nt) (ls.flatten.map pI) ∧ m' = m.fresh 1) := by
 obtain ⟨d, hd, hd1, hd2⟩ : ∃ d : TD, tdat Try.prog 3 = some d ∧ d.sz = 1 ∧ d.by_ ≤ 8 := ⟨(tdat Try.prog 3).get (by kernel_rfl), (Option.some_get _).symm, by kernel_rfl, of_decide_eq_true (by kernel_rfl)⟩
 refine ACalls.enter (mu := []) ok_mix Try.func57 rfl (by kernel_rfl) (by kernel_rfl) (by simp only [List.length_cons, List.length_nil, Try.ntmps57]; omega) ?_
 (repeat (first | refine aSeq fun X hX => ?_ | refine aBlk ?_ | refine aReg ?_; simp -implicitDefEqProofs only [↓slp, ↓reduceIte, reduceCtorEq, Y0] | apply hX; clear hX X | intro hlen; unfold maxLen at hlen))
 obtain ⟨I, hI⟩ : ∃ I : F → M → Prop, ∀ f m', I f m' = (∃ k : Nat, k ≤ ls.length ∧ f 0 = .sl o (ls.map pLJ) ∧ f 3 = pI (ls.take k).flatten.length ∧ f 9 = .sl o (ls.map pLJ) ∧ f 10 = pI ls.length ∧ f 11 = pI k ∧ m = m') := ⟨_, fun _ _ => rfl⟩
 refine aLoop I (fun f m => ls.length - numOf (f 11)) ?_ ?_
 ·rw [hI]; exact ⟨0, by omega, rfl, rfl, rfl, rfl, rfl, rfl⟩
 intro f m' hrel
 rw [hI] at hrel
 obtain ⟨k, hk, h0, h3, h9, h10, h11, rfl⟩ := hrel
 cases c1 : decide ((k : Int) < (ls.length : Int)) with
 | true =>
  have hlt : k < ls.length := by simpa using c1
  have hg := getD_map pLJ ls k hlt
  have hi : IntKind.i64.wrap ((k : Int) + 1) = ((k + 1 : Nat) : Int) := by rw [wrap64 (by omega)]; omega
  have hme : numOf (f 11) = k := by rw [h11]; exact Int.toNat_natCast k
  have hst : (ls.take (k + 1)).flatten.length = (ls.take k).flatten.length + ls[k].length := by rw [List.take_succ_eq_append_getElem hlt, List.flatten_append, List.length_append]; simp
  have hl2 := lists_lenJ ls (k + 1)
  have hw : IntKind.i64.wrap (((ls.take k).flatten.length : Int) + (ls[k].length : Int)) = (((ls.take (k + 1)).flatten.length : Nat) : Int) := by rw [wrap64 (by omega), hst]; omega
  have c2 : decide ((((ls.take (k + 1)).flatten.length : Nat) : Int) < 0) = false := by simp
  (repeat (first | refine aSeq fun X hX => ?_ | refine aReg ?_; simp -implicitDefEqProofs only [↓slp, slb, ↓reduceIte, h10, h11, pI, c1] | apply hX; clear hX X))
  refine aIf ?_; simp -implicitDefEqProofs only [slb, ↓reduceIte, reduceCtorEq]
  (repeat (first | refine aSeq fun X hX => ?_ | refine aSkip ?_ | refine aReg ?_; simp -implicitDefEqProofs only [↓slp, ↓reduceIte, jA, jB, Y0, h3, h9, h11, pI, hg, pLJ, hw, c2] | apply hX; clear hX X | intro hlen; unfold maxLen at hlen | apply And.intro; focus omega))
  refine aIf ?_; simp -implicitDefEqProofs only [slb, ↓reduceIte]
  (repeat (first | refine aSkip ?_ | refine aReg ?_; simp -implicitDefEqProofs only [↓slp, slb, ↓reduceIte, jA, h11, pI, hi] | apply hX; clear hX X))
  rw [hI]
  exact ⟨⟨k + 1, hlt, h0, rfl, h9, h10, rfl, rfl⟩, by omega⟩
 | false =>
 obtain rfl : k = ls.length := by simp at c1; omega
 rw [List.take_length] at h3
 have hgr := grow_68 ls.flatten.length m d hd (by omega) (by omega) (by have := Nat.mul_le_mul (Nat.le_of_lt hb) hd2; omega)
 rw [hd1] at hgr
 (repeat (first | refine aSeq fun X hX => ?_ | refine aReg ?_; simp -implicitDefEqProofs only [↓slp, slb, ↓reduceIte, h10, h11, pI, c1] | apply hX; clear hX X))
 refine aIf ?_; simp -implicitDefEqProofs only [slb, ↓reduceIte]
 (repeat (first | refine aSeq fun X hX => ?_ | refine aExit ?_; try simp only [slx, ↓reduceIte, jA, reduceCtorEq] | refine aReg ?_; simp -implicitDefEqProofs only [↓slp, ↓reduceIte, jA, Y0, h3, pI] | clear hX X; apply hX; clear hX X))
 refine callM hgr ?_
 rintro v m' ⟨rfl, rfl⟩
 simp -implicitDefEqProofs only [↓slp, slb, ↓reduceIte]
 (repeat (first | refine aSeq fun X hX => ?_ | refine aBlk ?_ | refine aReg ?_; simp -implicitDefEqProofs only [↓slp, ↓reduceIte, reduceCtorEq, Y0, h0] | apply hX; clear hX X | intro hlen; unfold maxLen at hlen))
 clear I hI h3 h9 h10 h11
 obtain ⟨I, hI⟩ : ∃ I : F → M → Prop, ∀ f m', I f m' = (∃ (k : Nat) (o2 : Own), k ≤ ls.length ∧ f 6 = .sl o2 ((ls.take k).flatten.map pI) ∧ f 25 = .sl o (ls.map pLJ) ∧ f 26 = pI ls.length ∧ f 27 = pI k ∧ Toks m m' ∧ Mine m m' o2 1) := ⟨_, fun _ _ => rfl⟩
 refine aLoop I (fun f m => ls.length - numOf (f 27)) ?_ ?_
 ·rw [hI]; exact ⟨0, .tok m.nt, by omega, rfl, rfl, rfl, rfl, (Toks.refl m).use (o := .full) (s := 1) (s' := 1) Mine.full, Mine.new (o := .full) (Toks.refl m) 1⟩
 intro f m' hrel
 rw [hI] at hrel
 obtain ⟨k, o2, hk, h6, h25, h26, h27, ht, hm⟩ := hrel
 cases c1 : decide ((k : Int) < (ls.length : Int)) with
 | true =>
  have hlt : k < ls.length := by simpa using c1
  have hg := getD_map pLJ ls k hlt
  have hi : IntKind.i64.wrap ((k : Int) + 1) = ((k + 1 : Nat) : Int) := by rw [wrap64 (by omega)]; omega
  have hme : numOf (f 27) = k := by rw [h27]; exact Int.toNat_natCast k
  have hst : (ls.take (k + 1)).flatten = (ls.take k).flatten ++ ls[k] := by rw [List.take_succ_eq_append_getElem hlt, List.flatten_append]; simp
  have hl2 := lists_lenJ ls (k + 1)
  have hl3 : (ls.take (k + 1)).flatten.length = (ls.take k).flatten.length + ls[k].length := by rw [hst, List.length_append]
  have hfree := hm.free
  have q1 : (ls.take k).flatten.length + ls[k].length ≤ maxLen := by unfold maxLen; omega
  have q3 := ints_one (ls.take k).flatten
  have q4 := ints_one ls[k]
  (repeat (first | refine aSeq fun X hX => ?_ | refine aReg ?_; simp -implicitDefEqProofs only [↓slp, slb, ↓reduceIte, h26, h27, pI, c1] | apply hX; clear hX X))
  refine aIf ?_; simp -implicitDefEqProofs only [slb, ↓reduceIte, reduceCtorEq]
  (repeat (first | refine aSeq fun X hX => ?_ | refine aSkip ?_ | refine aReg ?_; simp -implicitDefEqProofs only [↓slp, ↓reduceIte, jA, jB, Y0, h6, h25, h27, pI, hg, pLJ, hi] | apply hX; clear hX X | apply And.intro; focus (first | omega | (repeat' apply And.intro) <;> first | omega | assumption)))
  rw [hI]
  exact ⟨⟨k + 1, .tok m'.nt, hlt, by rw [hst, List.map_append]; rfl, h25, h26, rfl, ht.use hm, Mine.new ht o2 1⟩, by omega⟩
 | false =>
  obtain rfl : k = ls.length := by simp at c1; omega
  rw [List.take_length] at h6
  (repeat (first | refine aSeq fun X hX => ?_ | refine aReg ?_; simp -implicitDefEqProofs only [↓slp, slb, ↓reduceIte, h26, h27, pI, c1] | apply hX; clear hX X))
  refine aIf ?_; simp -implicitDefEqProofs only [slb, ↓reduceIte]
  (repeat (first | refine aSeq fun X hX => ?_ | (first | refine aExit ?_ | refine aRet ?_); try simp only [slx, ↓reduceIte, jA, reduceCtorEq] | refine aReg ?_; simp -implicitDefEqProofs only [↓slp, slb, ↓reduceIte, jA, h6] | apply hX; clear hX X | clear hX X; apply hX; clear hX X))
  simp only [aPost, Try.results57, aRes_n, aRes_t, aRes_c, pack_one, pack_two]
  exact leave_app (o0 := .full) (appT ht hm) (ints_one _) ⟨rfl, rfl⟩

theorem within_mono {n k n' k' : Nat} (hn : n ≤ n') (hk : k ≤ k') : ∀ x : PV, x.within n k = true → x.within n' k' = true := by
 intro x
 induction x using PV.rec (motive_2 := fun l => PV.withins n k l = true → PV.withins n' k' l = true) with
 | v | junk | ep => intro _; rfl
 | sl o xs _ =>
  intro h
  cases o with
  | tok t => simp only [PV.within, decide_eq_true_eq] at h ⊢; omega
  | no => rfl
  | full => rfl
 | ag xs ih => intro h; exact ih h
 | tp xs ih => intro h; exact ih h
 | bp i o => intro h; simp only [PV.within, decide_eq_true_eq] at h ⊢; omega
 | bs i o l => intro h; simp only [PV.within, decide_eq_true_eq] at h ⊢; omega
 | gs i o l => intro h; simp only [PV.within, decide_eq_true_eq] at h ⊢; omega
 | mp i => intro h; simp only [PV.within, decide_eq_true_eq] at h ⊢; omega
 | it i => intro h; simp only [PV.within, decide_eq_true_eq] at h ⊢; omega
 | fn f a b iha ihb =>
  intro h
  simp only [PV.within, Bool.and_eq_true] at h
  simp only [PV.within, iha h.1, ihb h.2, Bool.and_self]
 | ifc t y ih => intro h; exact ih h
 | nil => rfl
 | cons y l h1 h2 =>
  rename_i h
  simp only [PV.withins, Bool.and_eq_true] at h
  simp only [PV.withins, h1 h.1, h2 h.2, Bool.and_self]
theorem push_nb (m : M) (c : List PV) : (m.push c).nb = m.nb + 1 := by simp [M.push, M.nb]
theorem upd_nb' (m : M) (id : Nat) (c : List PV) : (m.upd id c).nb = m.nb := by simp [M.upd, M.nb]
/-- A state that comes out of another one: what turned holds nothing from elsewhere. -/
structure Stp (m0 m : M) : Prop where
 nb : m0.nb ≤ m.nb
 nt : m0.nt ≤ m.nt
 wf : ∀ id c, m.get id = some c → m0.get id = some c ∨ ∀ x ∈ c, x.within m.nb m.nt = true
theorem Stp.refl (m : M) : Stp m m := ⟨Nat.le_refl _, Nat.le_refl _, fun _ _ h => .inl h⟩
theorem Stp.trans {a b c : M} (h : Stp a b) (k : Stp b c) : Stp a c :=
 ⟨Nat.le_trans h.nb k.nb, Nat.le_trans h.nt k.nt, fun id x hx => by
  rcases k.wf id x hx with h1 | h1
  ·rcases h.wf id x h1 with h2 | h2
   ·exact .inl h2
   ·exact .inr fun y hy => within_mono k.nb k.nt y (h2 y hy)
  ·exact .inr h1⟩
theorem Stp.push (m : M) {c : List PV} (hc : ∀ x ∈ c, x.within (m.nb + 1) m.nt = true) : Stp m (m.push c) :=
 ⟨by rw [push_nb]; omega, Nat.le_refl _, fun id x hx => by
  rw [M.get_push] at hx
  split at hx
  ·cases hx; rw [push_nb]; exact .inr hc
  ·exact .inl hx⟩
theorem Stp.upd (m : M) {id : Nat} {c : List PV} (hc : ∀ x ∈ c, x.within m.nb m.nt = true) : Stp m (m.upd id c) :=
 ⟨by rw [upd_nb']; exact Nat.le_refl _, Nat.le_refl _, fun k x hx => by
  rw [M.get_upd] at hx
  split at hx
  ·cases hx; rw [upd_nb']; exact .inr hc
  ·exact .inl hx⟩
theorem Stp.toks (m : M) {m' : M} (hb : m'.boxes = m.boxes) (ht : m.nt ≤ m'.nt) : Stp m m' :=
 ⟨by unfold M.nb; rw [hb]; exact Nat.le_refl _, ht, fun k x hx => .inl (by unfold M.get at hx ⊢; rw [← hb]; exact hx)⟩
theorem use_fresh_nt (o : Own) (m : M) (s : Nat) : ((o.use m).fresh s).nt = m.nt + 1 := by
 show ((o.use m).toks ++ [some s]).length = _
 rw [List.length_append, use_len]; rfl
theorem Stp.use (m : M) (o : Own) (s : Nat) : Stp m ((o.use m).fresh s) := Stp.toks m (use_boxes o m) (by rw [use_fresh_nt]; omega)
theorem leave_stp {m0 m : M} {v : PV} {R : PV → M → Prop} (h : Stp m0 m) (hv : v.settle.within m.nb m.nt = true) (hR : R v.settle m) : ∃ v' m', Leave m0 m v v' m' ∧ R v' m' :=
 ⟨v.settle, m, .gen v v.settle m (.inr rfl) h.nb h.nt List.take_length List.take_length (fun id c hc => (h.wf id c hc).imp (fun h => h) (fun h => (withins_iff _).2 h)) hv, hR⟩
theorem leave_stpV {m0 m : M} {v : PV} {R : PV → M → Prop} (h : Stp m0 m) (hv : v.within m.nb m.nt = true) (hR : R v m) : ∃ v' m', Leave m0 m v v' m' ∧ R v' m' :=
 ⟨v, m, .gen v v m (.inl rfl) h.nb h.nt List.take_length List.take_length (fun id c hc => (h.wf id c hc).imp (fun h => h) (fun h => (withins_iff _).2 h)) hv, hR⟩
set_option maxHeartbeats 2000000 in
theorem cloneG_any (o : Own) (l : List Int) (m : M) (hl : l.length < 2 ^ 43) : ACalls Try.prog 25 [.sl o (l.map pI)] m (fun v m' => (l = [] ∧ v = .sl .full [] ∧ m' = m) ∨ (0 < l.length ∧ ∃ (cap : Nat) (c : List PV), v = .gs m.nb l.length cap ∧ l.length ≤ cap ∧ c.length = cap ∧ c.take l.length = l.map pI ∧ m' = m.push c)) := by
 have h1 := ints_one l
 refine ACalls.enter (mu := [7]) ok_mix Try.func25 rfl (by kernel_rfl) (by kernel_rfl) (by simp only [List.length_cons, List.length_nil, Try.ntmps25]; omega) ?_
 (repeat (first | refine aSeq fun X hX => ?_ | refine aReg ?_; simp -implicitDefEqProofs only [↓slp, ↓reduceIte, reduceCtorEq, jF, Y0] | apply hX; clear hX X))
 rintro v m' ⟨b, rfl, hb, rfl⟩
 cases b with
 | true =>
  obtain rfl : l = [] := by simpa using hb rfl
  (repeat (first | refine aSeq fun X hX => ?_ | refine aRet ?_; try simp only [slx, ↓reduceIte, jA, reduceCtorEq] | (first | apply aReg | apply aIf); simp -implicitDefEqProofs only [↓slp, ↓reduceIte, reduceCtorEq, jD, jF, Y0] | apply hX; clear hX X))
  simp only [aPost, Try.results25, aRes_n, aRes_t, aRes_c, pack_one, pack_two]
  refine leave_stpV (Stp.refl _) rfl ?_
  first | exact .inl ⟨rfl, rfl, rfl⟩ | rfl | exact ⟨rfl, rfl⟩ | (simp [put_app]; done)
 | false =>
  have q1 : l.length ≤ maxLen := by unfold maxLen; omega
  have q2 : l.length * 8 ≤ 140737488355328 := by omega
  (repeat (first | refine aSeq fun X hX => ?_ | refine aSkip ?_ | (first | apply aReg | apply aIf); simp -implicitDefEqProofs only [↓slp, ↓reduceIte, reduceCtorEq, jA, jC, jE, jF, Y0] | apply hX; clear hX X))
  refine ⟨rfl, ⟨h1, q1, q2⟩, ?_⟩
  rintro v m2 (⟨h0, rfl, rfl⟩ | ⟨h0, cap, c, rfl, q3, q4, q5, q6, rfl⟩)
  ·obtain rfl : l = [] := List.eq_nil_of_length_eq_zero h0
   refine hX _ _ ?_
   clear hX X
   (repeat (refine aRet ?_; try simp only [slx, ↓reduceIte, jA, reduceCtorEq]))
   simp only [aPost, Try.results25, aRes_n, aRes_t, aRes_c, pack_one, pack_two]
   refine leave_stpV (Stp.refl _) rfl ?_
   first | exact .inl ⟨rfl, rfl, rfl⟩ | rfl | exact ⟨rfl, rfl⟩ | (simp [put_app]; done)
  ·refine hX _ _ ?_
   clear hX X
   (repeat refine aRet ?_)
   simp only [aPost, Try.results25, aRes_n, aRes_t, aRes_c, pack_one, pack_two]
   rw [Nat.mul_one] at q4 q5 q6
   have hfl : List.flatMap PV.cells (l.map pI) = l.map pI := by
    rw [List.flatMap_map]
    exact List.map_eq_flatMap.symm
   rw [hfl] at q5
   have hcw : ∀ y ∈ c, y.within (m'.nb + 1) m'.nt = true := fun y hy => by
    rw [← List.take_append_drop l.length c] at hy
    rcases List.mem_append.1 hy with hy | hy
    ·rw [q5] at hy
     obtain ⟨x, _, rfl⟩ := List.mem_map.1 hy
     rfl
    ·rw [q6 y hy]; rfl
   refine leave_stp (Stp.push m' hcw) (by simp [put_app, PV.settle, PV.within, push_nb]) ?_
   exact .inr ⟨h0, cap, c, rfl, q3, q4, q5, rfl⟩
end Go.Proofs.Ytaealemhegdmpaa

/-
 causes: the graph in its boxes; find, put, need.
-/
set_option linter.unusedVariables false
set_option linter.unusedSimpArgs false
namespace Go.Proofs.Ytaealemhegdmpaa
open Nat renaming reduceEqDiff → jA, reduceAdd → jB, reduceMul → jC, reduceLT → jD, reduceLeDiff → jE, reduceBEq → jF, reduceBNe → jG
open Int renaming reduceLE → jH, reduceLT → jI, reduceToNat → jJ, reduceEq → jK
open Go
set_option maxRecDepth 20000
-- TNAMES: int; uint8; int32; string; bool; []string; []api.Expr; api.Expr; api.Pos; api.Type; api.On; []api.On; api.Var; []api.Var; []int; causes.graph; []causes.vertex; causes.vertex; causes.scope; *causes.graph


theorem BaseR.trans {a b c : M} (h : BaseR a b) (k : BaseR b c) : BaseR a c :=
 ⟨Nat.le_trans h.nb k.nb, Nat.le_trans h.nt k.nt, by rw [← h.boxes, ← k.boxes, List.take_take, Nat.min_eq_left h.nb], by rw [← h.toks, ← k.toks, List.take_take, Nat.min_eq_left h.nt]⟩
theorem BaseR.push {m mb : M} (h : BaseR m mb) (c : List PV) : BaseR m (mb.push c) :=
 ⟨by show _ ≤ (mb.boxes ++ [some c]).length; have := h.nb; unfold M.nb at this ⊢; simp; omega, h.nt, by show (mb.boxes ++ [some c]).take _ = _; rw [List.take_append_of_le_length (by exact h.nb)]; exact h.boxes, h.toks⟩
theorem BaseR.upd {m mb : M} (h : BaseR m mb) {id : Nat} (hi : m.nb ≤ id) (c : List PV) : BaseR m (mb.upd id c) :=
 ⟨by show _ ≤ (mb.boxes.set id (some c)).length; rw [List.length_set]; exact h.nb, h.nt, by show (mb.boxes.set id (some c)).take _ = _; rw [List.take_set_of_le hi]; exact h.boxes, h.toks⟩
theorem BaseR.get {m mb : M} (h : BaseR m mb) {id : Nat} (hi : id < m.nb) : mb.get id = m.get id := by
 unfold M.get
 rw [← h.boxes, List.getElem?_take_of_lt hi]
/-- A vertex, as it stands in memory. -/
structure Vm where
 name : Str
 line : Int
 col : Int
 o : Own
 l : List Int
def Vm.cs (x : Vm) : List PV := [pS x.name, pI x.line, pI x.col, .sl x.o (x.l.map pI)]
def gcells (L : List Vm) : List PV := L.flatMap Vm.cs
theorem gcells_len (L : List Vm) : (gcells L).length = L.length * 4 := flat_len _ 4 L (fun x _ => rfl)
theorem gcells_at {L : List Vm} {i : Nat} (h : i < L.length) (j : Nat) (hj : j < 4) : (gcells L)[i * 4 + j]? = (L[i].cs)[j]? := flat_get Vm.cs 4 L (fun x _ => rfl) i h j hj
/-- The graph stands in its boxes: what it holds. -/
structure GrM (mb : M) (gid : Nat) (L : List Vm) (m : M) : Prop where
 base : BaseR mb m
 gb : mb.nb ≤ gid
 glt : gid < m.nb
 box : (L = [] ∧ m.get gid = some [.sl .full []]) ∨ ∃ (id cap : Nat) (c : List PV), mb.nb ≤ id ∧ id ≠ gid ∧ m.get gid = some [.gs id L.length cap] ∧ m.get id = some c ∧ c.length = cap * 4 ∧ L.length ≤ cap ∧ c.take (L.length * 4) = gcells L ∧ ∀ x ∈ c, x.within m.nb m.nt = true
 own : ∀ i (h : i < L.length), Mine mb m L[i].o 1
 dist : ∀ i j (hi : i < L.length) (hj : j < L.length) (t : Nat), L[i].o = .tok t → L[j].o = .tok t → i = j
section
variable {mb m : M} {gid : Nat} {L : List Vm}
theorem Mine.toksE {mb m m' : M} {o : Own} {s : Nat} (h : Mine mb m o s) (ht : m'.toks = m.toks) : Mine mb m' o s := by
 rcases h with rfl | ⟨t, rfl, h1, h2⟩
 ·exact .inl rfl
 ·exact .inr ⟨t, rfl, h1, by unfold M.alive at h2 ⊢; rw [ht]; exact h2⟩
theorem GrM.push (h : GrM mb gid L m) (A : List PV) : GrM mb gid L (m.push A) := by
 refine ⟨h.base.push A, h.gb, by rw [push_nb]; have := h.glt; omega, ?_, fun i hi => (h.own i hi).toksE rfl, h.dist⟩
 have ho : ∀ {k : Nat} {c : List PV}, m.get k = some c → (m.push A).get k = some c := fun {k c} hk => by
  rw [M.get_push, if_neg (by have := M.get_lt hk; unfold M.nb; omega)]; exact hk
 rcases h.box with ⟨h1, h2⟩ | ⟨id, cap, c, b0, b0', b1, b2, b3, b4, b5, b6⟩
 ·exact .inl ⟨h1, ho h2⟩
 ·exact .inr ⟨id, cap, c, b0, b0', ho b1, ho b2, b3, b4, b5, fun x hx => within_mono (by rw [push_nb]; omega) (Nat.le_refl _) x (b6 x hx)⟩
theorem GrM.use (h : GrM mb gid L m) {o : Own} {s s' : Nat} (ho : Mine mb m o s') (hne : ∀ i (hi : i < L.length) (t : Nat), o = .tok t → L[i].o ≠ .tok t) : GrM mb gid L ((o.use m).fresh s) := by
 have hb : ((o.use m).fresh s).boxes = m.boxes := use_boxes o m
 have hget : ∀ k, ((o.use m).fresh s).get k = m.get k := fun k => by unfold M.get; rw [hb]
 have hnb : ((o.use m).fresh s).nb = m.nb := by unfold M.nb; rw [hb]
 refine ⟨h.base.fresh ho, h.gb, by rw [hnb]; exact h.glt, ?_, fun i hi => (h.own i hi).other (fun t ht => hne i hi t ht), h.dist⟩
 rcases h.box with ⟨h1, h2⟩ | ⟨id, cap, c, b0, b0', b1, b2, b3, b4, b5, b6⟩
 ·exact .inl ⟨h1, by rw [hget]; exact h2⟩
 ·exact .inr ⟨id, cap, c, b0, b0', by rw [hget]; exact b1, by rw [hget]; exact b2, b3, b4, b5, fun x hx => within_mono (by rw [hnb]; exact Nat.le_refl _) (by rw [use_fresh_nt]; omega) x (b6 x hx)⟩
theorem GrM.fresh (h : GrM mb gid L m) (s : Nat) : GrM mb gid L (m.fresh s) := h.use (o := .full) (s' := 1) .full (fun _ _ _ h => by cases h)
theorem GrM.tokNew (h : GrM mb gid L m) : ∀ i (hi : i < L.length) (t : Nat), Own.tok m.nt = .tok t → L[i].o ≠ .tok t := fun i hi t ht he => by
 cases ht
 rcases h.own i hi with h1 | ⟨t', h1, _, h2⟩
 ·rw [h1] at he; cases he
 ·rw [h1] at he; cases he
  have := M.alive_lt h2
  unfold M.nt at this
  exact Nat.lt_irrefl _ this
/-- One more vertex, in a row that is new or as it was. -/
theorem GrM.grow (h : GrM mb gid L m) (x : Vm) (hx : x.o = .full) {id' cap' : Nat} {c' : List PV} {m2 : M} (hcap : L.length + 1 ≤ cap') (hl : c'.length = cap' * 4) (ht : c'.take ((L.length + 1) * 4) = gcells L ++ x.cs) (hw : ∀ y ∈ c', y.within m2.nb m2.nt = true)
    (hm : (m2 = m.upd id' c' ∧ mb.nb ≤ id' ∧ id' ≠ gid ∧ id' < m.nb) ∨ (id' = m.nb ∧ m2 = m.push c')) : GrM mb gid (L ++ [x]) (m2.upd gid [.gs id' (L.length + 1) cap']) := by
 have hglt := h.glt
 have key : m2.toks = m.toks ∧ gid < m2.nb ∧ m2.get id' = some c' ∧ id' ≠ gid ∧ mb.nb ≤ id' ∧ BaseR mb m2 := by
  rcases hm with ⟨rfl, k1, k2, k3⟩ | ⟨rfl, rfl⟩
  ·exact ⟨rfl, by rw [upd_nb']; exact hglt, by rw [M.get_upd, if_pos ⟨rfl, k3⟩], k2, k1, h.base.upd k1 c'⟩
  ·exact ⟨rfl, by rw [push_nb]; omega, by rw [M.get_push, if_pos rfl], by omega, by have := h.base.nb; exact this, h.base.push c'⟩
 obtain ⟨k1, k2, k3, k4, k5, k6⟩ := key
 refine ⟨k6.upd h.gb _, h.gb, by rw [upd_nb']; exact k2, .inr ⟨id', cap', c', k5, k4, ?_, ?_, hl, by simpa using hcap, ?_, fun y hy => by rw [upd_nb']; exact hw y hy⟩, fun i hi => ?_, fun i j hi hj t e1 e2 => ?_⟩
 ·rw [M.get_upd, if_pos ⟨rfl, k2⟩]; simp
 ·rw [M.get_upd, if_neg (fun q => k4 q.1)]; exact k3
 ·rw [List.length_append, List.length_singleton, ht]
  unfold gcells
  rw [List.flatMap_append]; simp
 ·simp only [List.getElem_append]
  split
  ·exact (h.own i (by assumption)).toksE k1
  ·simp only [List.getElem_singleton]; exact .inl hx
 ·simp only [List.getElem_append] at e1 e2
  split at e1 <;> split at e2
  ·exact h.dist i j (by assumption) (by assumption) t e1 e2
  ·simp only [List.getElem_singleton] at e2; rw [hx] at e2; cases e2
  ·simp only [List.getElem_singleton] at e1; rw [hx] at e1; cases e1
  ·simp at hi hj; omega
end
/-- The last of some places whose name it is. -/
def fndN (ns : List Str) (see : List Nat) (s : Str) : Int := see.foldl (fun a (i : Nat) => if eqS (ns.getD i ⟨#[]⟩) s then (i : Int) else a) (-1)
theorem fndN_snoc (ns : List Str) (see : List Nat) (i : Nat) (s : Str) : fndN ns (see ++ [i]) s = if eqS (ns.getD i ⟨#[]⟩) s then (i : Int) else fndN ns see s := by
 unfold fndN; rw [List.foldl_append]; rfl
abbrev nmsL (L : List Vm) : List Str := L.map Vm.name
abbrev pN (n : Nat) : PV := .v (.int .i64 n)

set_option maxHeartbeats 2000000 in
theorem find_any (mb : M) (gid : Nat) (L : List Vm) (see : List Nat) (s : Str) (m : M) (hg : GrM mb gid L m) (hs : ∀ i ∈ see, i < L.length) (hsl : see.length < 2 ^ 40) : ACalls Try.prog 43 [.bp gid 0, .sl .no (see.map pN), pS s] m (fun v m' => v = pI (fndN (nmsL L) see s) ∧ m' = m) := by
 refine ACalls.enter (mu := []) ok_mix Try.func43 rfl (by kernel_rfl) (by kernel_rfl) (by simp only [List.length_cons, List.length_nil, Try.ntmps43]; omega) ?_
 obtain ⟨I, hI⟩ : ∃ I : F → M → Prop, ∀ f m', I f m' = (∃ k : Nat, k ≤ see.length ∧ f 0 = .bp gid 0 ∧ f 1 = .sl .no (see.map pN) ∧ f 2 = pS s ∧ f 7 = pI ((k : Int) - 1) ∧ fndN (nmsL L) see s = fndN (nmsL L) (see.take k) s ∧ m' = m) := ⟨_, fun _ _ => rfl⟩
 have hw : IntKind.i64.wrap ((see.length : Int) - 1) = (see.length : Int) - 1 := by rw [wrap64 (by omega)]
 (repeat (first | refine aSeq fun X hX => ?_ | refine aBlk ?_ | refine aReg ?_; simp -implicitDefEqProofs only [↓slp, ↓reduceIte, jA, Y0, pI, hw] | apply hX; clear hX X | intro hlen; unfold maxLen at hlen))
 refine aLoop I (fun f m => numOf (.v (.int .i64 (1 + (match f 7 with | .v (.int _ n) => n | _ => 0))))) ?_ ?_
 ·rw [hI]; exact ⟨see.length, Nat.le_refl _, rfl, rfl, rfl, rfl, by rw [List.take_length], rfl⟩
 intro f m' hrel
 rw [hI] at hrel
 obtain ⟨k, hk, f0, f1, f2, f7, hv, rfl⟩ := hrel
 have hme : numOf (.v (.int .i64 (1 + (match f 7 with | .v (.int _ n) => n | _ => 0)))) = k := by rw [f7]; show (1 + ((k : Int) - 1)).toNat = k; omega
 cases c1 : decide ((k : Int) - 1 ≥ 0) with
 | false =>
  obtain rfl : k = 0 := by simp at c1; omega
  (repeat (first | refine aSeq fun X hX => ?_ | refine aReg ?_; simp -implicitDefEqProofs only [↓slp, slb, ↓reduceIte, f7, pI, c1] | apply hX; clear hX X))
  refine aIf ?_; simp -implicitDefEqProofs only [slb, ↓reduceIte]
  (repeat (first | refine aSeq fun X hX => ?_ | (first | refine aExit ?_ | refine aRet ?_); try simp only [slx, ↓reduceIte, jA, reduceCtorEq] | refine aReg ?_; simp -implicitDefEqProofs only [↓slp, slb] | apply hX; clear hX X | clear hX X; apply hX; clear hX X))
  simp only [aPost, Try.results43, aRes_n, aRes_t, aRes_c, pack_one, pack_two]
  exact leave_same rfl ⟨by rw [hv]; rfl, rfl⟩
 | true =>
  obtain ⟨j, rfl⟩ : ∃ j, k = j + 1 := ⟨k - 1, by simp at c1; omega⟩
  have hj : j < see.length := by omega
  have e0 : ((j + 1 : Nat) : Int) - 1 = (j : Int) := by omega
  have hlt := hs _ (List.getElem_mem hj)
  have g1 := getD_map pN see j hj
  rw [e0] at f7 c1
  rcases hg.box with ⟨rfl, _⟩ | ⟨id, cap, c, _, _, b1, b2, b3, b4, b5, _⟩
  ·simp at hlt
  have hcl := gcells_len L
  have hn0 : c.getD (see[j] * 4) .junk = pS L[see[j]].name := by
   have h1 := gcells_at hlt 0 (by omega)
   rw [Nat.add_zero, ← b5, List.getElem?_take_of_lt (by omega)] at h1
   rw [List.getD, h1]; rfl
  have hcl2 : see[j] * 4 < c.length := by rw [b3]; have := Nat.mul_le_mul_right 4 b4; omega
  have hsn := fndN_snoc (nmsL L) (see.take j) see[j] s
  rw [← List.take_succ_eq_append_getElem hj, ← hv] at hsn
  have hnm : (nmsL L).getD see[j] ⟨#[]⟩ = L[see[j]].name := by simp [nmsL, List.getD, hlt]
  rw [hnm] at hsn
  have hi : IntKind.i64.wrap ((j : Int) - 1) = (j : Int) - 1 := by rw [wrap64 (by omega)]
  have hmu : numOf (.v (.int .i64 (1 + (j : Int) - 1))) = j := by show (1 + (j : Int) - 1).toNat = j; omega
  cases c2 : (L[see[j]].name.toList == s.toList) with
  | true =>
   have c3 : eqS L[see[j]].name s = true := c2
   (repeat (first | refine aSeq fun X hX => ?_ | refine aReg ?_; simp -implicitDefEqProofs only [↓slp, slb, ↓reduceIte, f7, pI] | apply hX; clear hX X))
   refine aIf ?_; simp -implicitDefEqProofs only [slb, ↓reduceIte, reduceCtorEq]
   (repeat (first | refine aSeq fun X hX => ?_ | refine aSkip ?_ | refine aRet ?_; try simp only [slx, ↓reduceIte, jA, reduceCtorEq] | (first | apply aReg | refine aDrE ?_ | apply aIf); simp -implicitDefEqProofs only [forall_eq, ↓slp, ↓reduceIte, reduceCtorEq, jA, Y0, f0, f1, f2, f7, pI, pN, pS, g1, b1, b2, hn0, c2, Nat.add_zero, Nat.zero_add] | apply hX; clear hX X | apply And.intro; focus omega))
   simp only [aPost, Try.results43, aRes_n, aRes_t, aRes_c, pack_one, pack_two]
   rw [if_pos c3] at hsn
   exact leave_same rfl ⟨by rw [hsn]; rfl, rfl⟩
  | false =>
   have c3 : ¬ eqS L[see[j]].name s = true := by rw [show eqS L[see[j]].name s = false from c2]; simp
   (repeat (first | refine aSeq fun X hX => ?_ | refine aReg ?_; simp -implicitDefEqProofs only [↓slp, slb, ↓reduceIte, f7, pI] | apply hX; clear hX X))
   refine aIf ?_; simp -implicitDefEqProofs only [slb, ↓reduceIte, reduceCtorEq]
   (repeat (first | refine aSeq fun X hX => ?_ | refine aSkip ?_ | (first | apply aReg | refine aDrE ?_ | apply aIf); simp -implicitDefEqProofs only [forall_eq, ↓slp, ↓reduceIte, reduceCtorEq, jA, Y0, f0, f1, f2, f7, pI, pN, pS, g1, b1, b2, hn0, c2, hi, Nat.add_zero, Nat.zero_add] | apply hX; clear hX X | apply And.intro; focus omega))
   rw [if_neg c3] at hsn
   rw [hI]
   refine ⟨⟨j, by omega, f0, f1, f2, rfl, hsn, rfl⟩, ?_⟩
   show (1 + ((j : Int) - 1)).toNat < (1 + (j : Int)).toNat
   omega

/-- The states of which something is so. -/
def isP (p : M → Prop) (m : M) : Prop := ∃ x : Subtype p, m = x.1
theorem isP_all {p : M → Prop} {Q : M → Prop} : (∀ m2, isP p m2 → Q m2) = ∀ x : Subtype p, Q x.1 :=
 propext ⟨fun h x => h _ ⟨x, rfl⟩, fun h m2 ⟨x, e⟩ => e ▸ h x⟩
theorem isP_of {p : M → Prop} {m : M} (h : p m) : isP p m := ⟨⟨m, h⟩, rfl⟩
/-- Any state in which the graph's own box is that. -/
def isGB (gid : Nat) (v : PV) (m2 : M) : Prop := ∃ x : Subtype (fun m2 : M => m2.get gid = some [v]), m2 = x.1
theorem isGB_all {gid : Nat} {v : PV} {Q : M → Prop} : (∀ m2, isGB gid v m2 → Q m2) = ∀ x : Subtype (fun m2 : M => m2.get gid = some [v]), Q x.1 :=
 propext ⟨fun h x => h _ ⟨x, rfl⟩, fun h m2 ⟨x, e⟩ => e ▸ h x⟩
theorem isGB_of {gid : Nat} {v : PV} {m : M} (h : m.get gid = some [v]) : isGB gid v m := ⟨⟨m, h⟩, rfl⟩
set_option maxHeartbeats 4000000 in
theorem put_any (mb : M) (gid : Nat) (L : List Vm) (see : List Nat) (v : Va) (m : M) (hg : GrM mb gid L m) (hL : L.length < 2 ^ 40) (hsl : see.length < 2 ^ 40) : ACalls Try.prog 23 [.bp gid 0, .sl .no (see.map pN), v.pv] m (fun x m' => x = .sl .no ((see ++ [L.length]).map pN) ∧ GrM mb gid (L ++ [⟨v.name, v.line, v.col, .full, []⟩]) m' ∧ Stp m m') := by
 refine ACalls.enter (mu := [17, 18]) ok_mix Try.func23 rfl (by kernel_rfl) (by kernel_rfl) (by simp only [List.length_cons, List.length_nil, Try.ntmps23]; omega) ?_
 obtain ⟨d, hd, hd1, hd2⟩ : ∃ d : TD, tdat Try.prog 3 = some d ∧ d.sz = 1 ∧ d.by_ ≤ 8 := ⟨(tdat Try.prog 3).get (by kernel_rfl), (Option.some_get _).symm, by kernel_rfl, of_decide_eq_true (by kernel_rfl)⟩
 have hn1 : ∀ x ∈ see.map pN, x.cells.length = 1 := fun x hx => by
  obtain ⟨s, _, rfl⟩ := List.mem_map.1 hx
  rfl
 have hcl := fun m => clone_42 .no (see.map pN) m d hd (by rw [hd1]; exact hn1) (by simp; unfold maxLen; omega) (by simp; have := Nat.mul_le_mul (Nat.le_of_lt hsl) hd2; omega)
 rw [hd1] at hcl
 have hmx : see.length + 1 ≤ maxLen := by unfold maxLen; omega
 (repeat (first | refine aSeq fun X hX => ?_ | refine aReg ?_; simp -implicitDefEqProofs only [↓slp, ↓reduceIte, jF, Y0] | apply hX; clear hX X))
 have join : ∀ (f : F) (m3 : M), f 0 = .bp gid 0 → f 1 = .sl .no (see.map pN) → GrM mb gid (L ++ [⟨v.name, v.line, v.col, .full, []⟩]) m3 → Stp m m3 → X f m3 := by
  intro f m3 f0 f1 hg3 hst
  refine hX _ _ ?_
  clear hX X
  rcases hg3.box with ⟨h0, _⟩ | ⟨id, cap, c, _, _, b1, b2, b3, b4, b5, _⟩
  ·simp at h0
  have hw : IntKind.i64.wrap (((L.length + 1 : Nat) : Int) - 1) = (L.length : Int) := by rw [wrap64 (by omega)]; omega
  rw [List.length_append, List.length_singleton] at b1
  have hS : ∀ x : Subtype (fun m2 : M => m2.get gid = some [PV.gs id (L.length + 1) cap]), x.1.get gid = some [PV.gs id (L.length + 1) cap] := fun x => x.2
  refine aSeq fun X hX => ?_
  refine aDrw (isGB gid (.gs id (L.length + 1) cap)) (by kernel_rfl) (isGB_of b1) ?_
  simp -implicitDefEqProofs only [↓slp, slb, ↓reduceIte, jF, f1]
  refine callM (hcl _) ?_
  rintro w mw ⟨rfl, rfl⟩
  have b1f : (m3.fresh 1).get gid = some [.gs id (L.length + 1) cap] := b1
  have hal : (m3.fresh 1).alive m3.nt 1 := by simp [M.alive, M.fresh, M.nt]
  refine ⟨isGB_of b1f, ?_⟩
  simp -implicitDefEqProofs only [↓slp, ↓reduceIte, reduceCtorEq, jA, jB, jC, jE, jF, Y0, f0, isGB_all, b1f, hS, exists_eq', hw]
  refine ⟨⟨hal, hn1, hmx, by omega⟩, isGB_of ?_, ?_⟩
  ·exact b1
  (repeat (first | refine aRet ?_ | apply hX; clear hX X))
  simp only [aPost, Try.results23, aRes_n, aRes_t, aRes_c, pack_one, pack_two]
  simp -implicitDefEqProofs only [slb, ↓reduceIte]
  have hm1 : Mine mb (m3.fresh 1) (.tok m3.nt) 1 := .inr ⟨_, rfl, hg3.base.nt, hal⟩
  have hfin := hst.trans ((Stp.use m3 .full 1).trans (Stp.use (m3.fresh 1) (.tok m3.nt) 1))
  refine leave_stp hfin rfl ⟨?_, (hg3.fresh 1).use hm1 hg3.tokNew, hfin⟩
  simp [PV.settle]
 obtain ⟨A, hA⟩ : ∃ A, List.flatMap PV.cells [PV.ag [PV.v (.string v.name), PV.v (.int .i64 v.line), PV.v (.int .i64 v.col), PV.sl .full []]] = A := ⟨_, rfl⟩
 have hA4 : A.length = 4 := by rw [← hA]; rfl
 have hAw : ∀ x ∈ A, x.within (m.nb + 1) m.nt = true := by rw [← hA]; intro x hx; simp only [List.flatMap_cons, List.flatMap_nil, cells_ag, List.append_nil, List.mem_cons, List.not_mem_nil, or_false] at hx; rcases hx with rfl | rfl | rfl | rfl <;> rfl
 have hAx : A = Vm.cs ⟨v.name, v.line, v.col, .full, []⟩ := by rw [← hA]; rfl
 have hgA := hg.push A
 have hsA := Stp.push m hAw
 rcases hg.box with ⟨rfl, b1⟩ | ⟨id, cap, c, b0, b0', b1, b2, b3, b4, b5, b6⟩
 ·have hS : ∀ x : Subtype (fun m2 : M => m2.get gid = some [PV.sl .full []]), x.1.get gid = some [PV.sl .full []] := fun x => x.2
  refine aDrwE (isGB gid (.sl .full [])) (hne := List.cons_ne_nil _ _) rfl (by kernel_rfl) (by kernel_rfl) (isGB_of b1) ?_
  simp -implicitDefEqProofs only [↓slp, ↓reduceIte, reduceCtorEq, jA, jB, jC, jD, jE, jF, Y0, isGB_all, b1, hS, List.dropLast_cons_cons, List.dropLast_singleton, List.getLast_cons_cons, List.getLast_singleton]
  rw [hA]
  have eA : m.ext [some A] = m.push A := rfl
  rw [eA]
  refine ⟨isGB_of (by rw [M.get_push, if_neg (by have := hg.glt; omega)]; exact b1), ⟨by omega, by unfold maxLen; omega⟩, ?_⟩
  rintro w mw (⟨h0, _⟩ | ⟨_, cap, c, rfl, q1, q2, q3, q4, hmw⟩)
  ·omega
  have g1 : mw.get gid = some [.sl .full []] := by
   rw [hmw, M.get_push, if_neg (by rw [push_nb]; have := hg.glt; omega), M.get_push, if_neg (by have := hg.glt; omega)]; exact b1
  have hcw : ∀ y ∈ c, y.within mw.nb mw.nt = true := fun y hy => by
   rw [hmw, push_nb]
   rw [← List.take_append_drop (1 * 4) c] at hy
   rcases List.mem_append.1 hy with hy | hy
   ·rw [q3] at hy
    exact within_mono (by rw [push_nb]; omega) (Nat.le_refl _) y (hAw y (List.mem_of_mem_take hy))
   ·rw [q4 y hy]; rfl
  have hgr := hgA.grow ⟨v.name, v.line, v.col, .full, []⟩ rfl (c' := c) (m2 := mw) (id' := (m.push A).nb) (cap' := cap) q1 q2 (by rw [← hAx]; show c.take 4 = _; rw [show (4 : Nat) = 1 * 4 from rfl, q3, List.take_of_length_le (by omega)]; rfl) hcw (.inr ⟨rfl, hmw⟩)
  have hst : Stp m mw := hsA.trans (by rw [hmw]; exact Stp.push _ (by rw [hmw, push_nb] at hcw; exact hcw))
  refine ⟨isGB_of g1, ?_⟩
  have hidn : (m.push A).nb < mw.nb := by rw [hmw]; simp only [push_nb]; omega
  generalize (m.push A).nb = idn at *
  simp -implicitDefEqProofs only [slb, jB, jE, g1]
  exact join _ _ rfl rfl hgr (hst.trans (Stp.upd mw (fun y hy => by rw [List.mem_singleton] at hy; subst hy; simpa [PV.within] using hidn)))
 ·have hS : ∀ x : Subtype (fun m2 : M => m2.get gid = some [PV.gs id L.length cap]), x.1.get gid = some [PV.gs id L.length cap] := fun x => x.2
  have hgl := gcells_len L
  have hid := M.get_lt b2
  have b4' := Nat.mul_le_mul_right 4 b4
  refine aDrwE (isGB gid (.gs id L.length cap)) (hne := List.cons_ne_nil _ _) rfl (by kernel_rfl) (by kernel_rfl) (isGB_of b1) ?_
  have b2' : ∀ c', (m.ext [some c']).get id = some c := fun c' => ext_old b2
  simp -implicitDefEqProofs only [↓slp, ↓reduceIte, reduceCtorEq, jA, jB, jC, jD, jE, jF, Y0, isGB_all, b1, b2', hS, List.dropLast_cons_cons, List.dropLast_singleton, List.getLast_cons_cons, List.getLast_singleton]
  rw [hA]
  have eA : m.ext [some A] = m.push A := rfl
  rw [eA]
  refine ⟨isGB_of (by rw [M.get_push, if_neg (by have := hg.glt; omega)]; exact b1), ⟨⟨b3, b4⟩, by omega, by unfold maxLen; omega, by omega⟩, ?_⟩
  rintro w mw ⟨id', cap', c', rfl, q1, q2, q3, q4, hmw⟩
  have hwc : ∀ y ∈ c', y.within (m.nb + 1) m.nt = true := fun y hy => by
   rw [← List.take_append_drop ((L.length + 1) * 4) c'] at hy
   rcases List.mem_append.1 hy with hy | hy
   ·rw [q3] at hy
    rcases List.mem_append.1 hy with hy | hy
    ·exact within_mono (by omega) (Nat.le_refl _) y (b6 y (List.mem_of_mem_take hy))
    ·exact hAw y (List.mem_of_mem_take hy)
   ·rcases q4 y hy with rfl | hy
    ·rfl
    ·exact within_mono (by omega) (Nat.le_refl _) y (b6 y hy)
  have hnn : mw.nt = m.nt ∧ m.nb + 1 ≤ mw.nb ∧ id' < mw.nb ∧ mw.get gid = some [.gs id L.length cap] := by
   have hgl2 := hg.glt
   rcases hmw with ⟨rfl, rfl⟩ | ⟨rfl, rfl⟩
   ·refine ⟨rfl, by rw [upd_nb', push_nb]; omega, by rw [upd_nb', push_nb]; unfold M.nb; omega, ?_⟩
    rw [M.get_upd, if_neg (fun q => b0' q.1.symm), M.get_push, if_neg (by omega)]; exact b1
   ·refine ⟨rfl, by simp only [push_nb]; omega, by simp only [push_nb]; omega, ?_⟩
    rw [M.get_push, if_neg (by rw [push_nb]; omega), M.get_push, if_neg (by omega)]; exact b1
  obtain ⟨hn1, hn2, hn3, g1⟩ := hnn
  have hcw : ∀ y ∈ c', y.within mw.nb mw.nt = true := fun y hy => within_mono hn2 (by omega) y (hwc y hy)
  have hst : Stp m mw := hsA.trans (by
   rcases hmw with ⟨rfl, rfl⟩ | ⟨rfl, rfl⟩
   ·exact Stp.upd _ (fun y hy => by rw [push_nb]; exact hwc y hy)
   ·exact Stp.push _ (fun y hy => by rw [push_nb]; exact within_mono (by omega) (Nat.le_refl _) y (hwc y hy)))
  have hgr := hgA.grow ⟨v.name, v.line, v.col, .full, []⟩ rfl (c' := c') (m2 := mw) (id' := id') (cap' := cap') q1 q2 (by rw [← hAx, q3, b5, List.take_of_length_le (by omega)]) hcw (by
   rcases hmw with ⟨e1, e2⟩ | ⟨e1, e2⟩
   ·refine .inl ⟨by rw [e1]; exact e2, by rw [e1]; exact b0, by rw [e1]; exact b0', by rw [e1, push_nb]; unfold M.nb; omega⟩
   ·exact .inr ⟨e1, e2⟩)
  refine ⟨isGB_of g1, ?_⟩
  simp -implicitDefEqProofs only [slb, jB, jE, g1]
  exact join _ _ rfl rfl hgr (hst.trans (Stp.upd mw (fun y hy => by rw [List.mem_singleton] at hy; subst hy; simpa [PV.within] using hn3)))

theorem nd_lenA {α : Type} : ∀ (l T : List α), l.Nodup → (∀ s ∈ l, s ∈ T) → l.length ≤ T.length
 | [], T, _, _ => Nat.zero_le _
 | a :: l, T, h, hs => by
  rw [List.nodup_cons] at h
  have ha := hs a (List.mem_cons_self ..)
  obtain ⟨p, q, rfl⟩ := List.append_of_mem ha
  have := nd_lenA l (p ++ q) h.2 (fun s hsl => by
   have h1 := hs s (List.mem_cons_of_mem _ hsl)
   have hne : s ≠ a := fun e => h.1 (e ▸ hsl)
   simp only [List.mem_append, List.mem_cons] at h1 ⊢
   rcases h1 with h1 | h1 | h1
   ·exact .inl h1
   ·exact absurd h1 hne
   ·exact .inr h1)
  simp only [List.length_cons, List.length_append] at this ⊢
  omega
/-- What a vertex needs: places of others, each once. -/
def NdOk (n : Nat) (l : List Int) : Prop := l.Nodup ∧ ∀ k ∈ l, 0 ≤ k ∧ k < (n : Int)
theorem NdOk.len {n : Nat} {l : List Int} (h : NdOk n l) : l.length ≤ n := by
 have := nd_lenA l ((List.range n).map fun (k : Nat) => (k : Int)) h.1 (fun s hs => by
  obtain ⟨h1, h2⟩ := h.2 s hs
  exact List.mem_map.2 ⟨s.toNat, List.mem_range.2 (by omega), by omega⟩)
 simpa using this
def need1 (l : List Int) (k : Int) : List Int := if 0 ≤ k ∧ ¬ k ∈ l then l ++ [k] else l
def needL (l ks : List Int) : List Int := ks.foldl need1 l
theorem NdOk.need1 {n : Nat} {l : List Int} (h : NdOk n l) {k : Int} (hk : k < (n : Int)) : NdOk n (need1 l k) := by
 unfold Go.Proofs.Ytaealemhegdmpaa.need1
 split
 ·rename_i hq
  refine ⟨?_, fun x hx => ?_⟩
  ·rw [List.nodup_append]
   refine ⟨h.1, by simp, fun a ha b hb => ?_⟩
   rw [List.mem_singleton] at hb
   subst hb
   rintro rfl
   exact hq.2 ha
  ·rcases List.mem_append.1 hx with hx | hx
   ·exact h.2 x hx
   ·rw [List.mem_singleton] at hx; subst hx; exact ⟨hq.1, hk⟩
 ·exact h
theorem NdOk.needL {n : Nat} : ∀ {ks l : List Int}, NdOk n l → (∀ k ∈ ks, k < (n : Int)) → NdOk n (needL l ks)
 | [], l, h, _ => h
 | k :: ks, l, h, hk => NdOk.needL (ks := ks) (h.need1 (hk k (List.mem_cons_self ..))) (fun x hx => hk x (List.mem_cons_of_mem _ hx))
theorem needL_mem : ∀ (ks l : List Int) (x : Int), x ∈ needL l ks ↔ x ∈ l ∨ (0 ≤ x ∧ x ∈ ks)
 | [], l, x => by simp [needL]
 | k :: ks, l, x => by
  show x ∈ needL (need1 l k) ks ↔ _
  rw [needL_mem ks]
  unfold need1
  split
  ·rename_i hq
   simp only [List.mem_append, List.mem_cons, List.not_mem_nil, or_false]
   constructor
   ·rintro ((h | rfl) | h)
    ·exact .inl h
    ·exact .inr ⟨hq.1, .inl rfl⟩
    ·exact .inr ⟨h.1, .inr h.2⟩
   ·rintro (h | ⟨h1, rfl | h2⟩)
    ·exact .inl (.inl h)
    ·exact .inl (.inr rfl)
    ·exact .inr ⟨h1, h2⟩
  ·rename_i hq
   simp only [List.mem_cons]
   constructor
   ·rintro (h | h)
    ·exact .inl h
    ·exact .inr ⟨h.1, .inr h.2⟩
   ·rintro (h | ⟨h1, rfl | h2⟩)
    ·exact .inl h
    ·by_cases hm : x ∈ l
     ·exact .inl hm
     ·exact absurd ⟨h1, hm⟩ hq
    ·exact .inr ⟨h1, h2⟩
theorem needL_take {l ks : List Int} {k : Nat} (h : k < ks.length) : needL l (ks.take (k + 1)) = need1 (needL l (ks.take k)) ks[k] := by
 unfold needL; rw [List.take_succ_eq_append_getElem h, List.foldl_append]; rfl
/-- A vertex with other needs. -/
def Vm.wi (x : Vm) (o : Own) (l : List Int) : Vm := { x with o := o, l := l }
theorem gcells_set : ∀ (L : List Vm) (i : Nat) (h : i < L.length) (o : Own) (l : List Int), gcells (L.set i (L[i].wi o l)) = (gcells L).set (i * 4 + 3) (.sl o (l.map pI))
 | [], i, h, o, l => by simp at h
 | x :: L, 0, h, o, l => rfl
 | x :: L, i + 1, h, o, l => by
  have := gcells_set L i (by simpa using h) o l
  unfold gcells at this ⊢
  rw [List.set_cons_succ, List.flatMap_cons, List.flatMap_cons, List.getElem_cons_succ, this, show (i + 1) * 4 + 3 = (i * 4 + 3) + x.cs.length by show _ = _ + 4; omega, List.set_append_right _ _ (by omega), Nat.add_sub_cancel]
theorem splice_set (c : List PV) (j : Nat) (v : PV) (h : j < c.length) : c.take j ++ [v] ++ c.drop (j + 1) = c.set j v := by
 rw [List.set_eq_take_append_cons_drop, if_pos h]; simp
section
variable {mb m : M} {gid : Nat} {L : List Vm}
/-- One more need of a vertex. -/
theorem GrM.more (h : GrM mb gid L m) {i : Nat} (hi : i < L.length) {id cap : Nat} {c : List PV} (b0 : mb.nb ≤ id) (b0' : id ≠ gid) (b1 : m.get gid = some [.gs id L.length cap]) (b2 : m.get id = some c) (b3 : c.length = cap * 4) (b4 : L.length ≤ cap) (b5 : c.take (L.length * 4) = gcells L) (b6 : ∀ x ∈ c, x.within m.nb m.nt = true) (l : List Int) :
    GrM mb gid (L.set i (L[i].wi (.tok m.nt) l)) (((L[i].o.use m).fresh 1).upd id (c.set (i * 4 + 3) (.sl (.tok m.nt) (l.map pI)))) ∧ Stp m (((L[i].o.use m).fresh 1).upd id (c.set (i * 4 + 3) (.sl (.tok m.nt) (l.map pI)))) := by
 have hmi := h.own i hi
 obtain ⟨m1, hm1⟩ : ∃ m1, (L[i].o.use m).fresh 1 = m1 := ⟨_, rfl⟩
 have hb : m1.boxes = m.boxes := by rw [← hm1]; exact use_boxes _ m
 have hget : ∀ k, m1.get k = m.get k := fun k => by unfold M.get; rw [hb]
 have hnb : m1.nb = m.nb := by unfold M.nb; rw [hb]
 have hnt : m1.nt = m.nt + 1 := by rw [← hm1]; exact use_fresh_nt _ _ _
 have hidlt : id < m.nb := M.get_lt b2
 have hidlt1 : id < m1.nb := by rw [hnb]; exact hidlt
 have hglt := h.glt
 have hw : ∀ y ∈ c.set (i * 4 + 3) (.sl (.tok m.nt) (l.map pI)), y.within m1.nb m1.nt = true := fun y hy => by
  rcases List.mem_or_eq_of_mem_set hy with hy | rfl
  ·exact within_mono (by omega) (by omega) y (b6 y hy)
  ·simp [PV.within]; omega
 have hst : Stp m m1 := by rw [← hm1]; exact Stp.use _ _ _
 rw [hm1]
 refine ⟨?_, hst.trans (Stp.upd m1 hw)⟩
 have hbase : BaseR mb m1 := by rw [← hm1]; exact h.base.fresh hmi
 refine ⟨hbase.upd b0 _, h.gb, by rw [upd_nb']; omega, .inr ⟨id, cap, c.set (i * 4 + 3) (.sl (.tok m.nt) (l.map pI)), b0, b0', ?_, ?_, by rw [List.length_set]; exact b3, by rw [List.length_set]; exact b4, ?_, fun y hy => by rw [upd_nb']; exact hw y hy⟩, fun j hj => ?_, fun j k hj hk t e1 e2 => ?_⟩
 ·rw [M.get_upd, if_neg (fun q => b0' q.1.symm), hget, List.length_set]; exact b1
 ·rw [M.get_upd, if_pos ⟨rfl, hidlt1⟩]
 ·rw [List.length_set, List.take_set, b5, gcells_set L i hi]
 ·have hj' : j < L.length := by simpa using hj
  have hmine : ∀ (o : Own), Mine mb m1 o 1 → Mine mb (m1.upd id (c.set (i * 4 + 3) (.sl (.tok m.nt) (l.map pI)))) o 1 := fun o ho => ho.toksE rfl
  refine hmine _ ?_
  rw [List.getElem_set]
  split
  ·rw [← hm1]
   show Mine mb _ (.tok m.nt) 1
   refine .inr ⟨_, rfl, h.base.nt, ?_⟩
   show ((L[i].o.use m).toks ++ [some 1])[m.nt]? = some (some 1)
   rw [← use_len L[i].o m]; simp
  ·rename_i hne
   rw [← hm1]
   exact (h.own j hj').other (fun t ht he => hne (h.dist i j hi hj' t ht he))
 ·have hj' : j < L.length := by simpa using hj
  have hk' : k < L.length := by simpa using hk
  have hnew : ∀ (q : Nat) (hq : q < L.length), L[q].o ≠ .tok m.nt := fun q hq => h.tokNew q hq m.nt rfl
  rw [List.getElem_set] at e1 e2
  split at e1 <;> split at e2
  ·omega
  ·cases e1; exact absurd e2 (hnew k hk')
  ·cases e2; exact absurd e1 (hnew j hj')
  ·exact h.dist j k hj' hk' t e1 e2
end

set_option maxHeartbeats 4000000 in
theorem need_any (mb : M) (gid : Nat) (L : List Vm) (i : Nat) (hi : i < L.length) (ks : List Int) (m : M) (hg : GrM mb gid L m) (hL : L.length < 2 ^ 30) (hk : ∀ k ∈ ks, k < (L.length : Int)) (hn : NdOk L.length L[i].l) (hkl : ks.length < 2 ^ 40) :
    ACalls Try.prog 44 [.bp gid 0, pN i, .sl .no (ks.map pI)] m (fun x m' => x = .tp [] ∧ ∃ o, GrM mb gid (L.set i (L[i].wi o (needL L[i].l ks))) m' ∧ Stp m m') := by
 refine ACalls.enter (mu := []) ok_mix Try.func44 rfl (by kernel_rfl) (by kernel_rfl) (by simp only [List.length_cons, List.length_nil, Try.ntmps44]; omega) ?_
 (repeat (first | refine aSeq fun X hX => ?_ | refine aBlk ?_ | refine aReg ?_; simp -implicitDefEqProofs only [↓slp, ↓reduceIte, Y0] | apply hX; clear hX X | intro hlen; unfold maxLen at hlen))
 obtain ⟨I, hI⟩ : ∃ I : F → M → Prop, ∀ f m', I f m' = (∃ (k : Nat) (o : Own), k ≤ ks.length ∧ f 0 = .bp gid 0 ∧ f 1 = pN i ∧ f 8 = .sl .no (ks.map pI) ∧ f 9 = pI ks.length ∧ f 10 = pI k ∧ GrM mb gid (L.set i (L[i].wi o (needL L[i].l (ks.take k)))) m' ∧ Stp m m') := ⟨_, fun _ _ => rfl⟩
 refine aLoop I (fun f m => ks.length - numOf (f 10)) ?_ ?_
 ·rw [hI]; exact ⟨0, L[i].o, by omega, rfl, rfl, rfl, rfl, rfl, by show GrM mb gid (L.set i L[i]) m; rw [List.set_getElem_self]; exact hg, Stp.refl m⟩
 intro f m' hrel
 rw [hI] at hrel
 obtain ⟨k, o, hkk, f0, f1, f8, f9, f10, hg', hst⟩ := hrel
 cases c1 : decide ((k : Int) < (ks.length : Int)) with
 | false =>
  obtain rfl : k = ks.length := by simp at c1; omega
  rw [List.take_length] at hg'
  (repeat (first | refine aSeq fun X hX => ?_ | refine aExit ?_; try simp only [slx, ↓reduceIte, jA, reduceCtorEq] | (first | apply aReg | apply aIf); simp -implicitDefEqProofs only [↓slp, slb, ↓reduceIte, f9, f10, pI, c1] | apply hX; clear hX X))
  simp only [aPost, Try.results44, aRes_n, aRes_t, aRes_c, pack_one, pack_two]
  exact leave_stp hst rfl ⟨rfl, o, hg', hst⟩
 | true =>
  have hlt : k < ks.length := by simpa using c1
  have g0 := getD_map pI ks k hlt
  have hi' : IntKind.i64.wrap ((k : Int) + 1) = ((k + 1 : Nat) : Int) := by rw [wrap64 (by omega)]; omega
  have hme : numOf (f 10) = k := by rw [f10]; exact Int.toNat_natCast k
  have hkn := hk _ (List.getElem_mem hlt)
  have hnx := needL_take (l := L[i].l) hlt
  have hno : NdOk L.length (needL L[i].l (ks.take k)) := hn.needL (fun x hx => hk x (List.mem_of_mem_take hx))
  have hnl := hno.len
  generalize hl1 : needL L[i].l (ks.take k) = l at *
  generalize ks[k] = x at *
  obtain ⟨L1, hL1⟩ : ∃ L1, L.set i (L[i].wi o l) = L1 := ⟨_, rfl⟩
  have hlen1 : L1.length = L.length := by rw [← hL1, List.length_set]
  have hi1 : i < L1.length := by omega
  have hx1 : L1[i] = L[i].wi o l := by simp only [← hL1, List.getElem_set_self]
  have hset : ∀ (o' : Own) (l' : List Int), L1.set i (L1[i].wi o' l') = L.set i (L[i].wi o' l') := fun o' l' => by
   rw [hx1, ← hL1, List.set_set]; rfl
  rw [hL1] at hg'
  have hgl := gcells_len L1
  rcases hg'.box with ⟨h0, _⟩ | ⟨id, cap, c, b0, b0', b1, b2, b3, b4, b5, b6⟩
  ·rw [h0] at hi1; simp at hi1
  have b4' := Nat.mul_le_mul_right 4 b4
  have hj : i * 4 + 3 < L1.length * 4 := by omega
  have hnd : c.getD (i * 4 + 3) .junk = .sl o (l.map pI) := by
   have h1 := gcells_at hi1 3 (by omega)
   rw [← b5, List.getElem?_take_of_lt hj] at h1
   rw [List.getD, h1, hx1]; rfl
  have hcl : i * 4 + 3 < c.length := by omega
  cases c2 : decide (x ≥ 0) with
  | false =>
   have hx0 : need1 l x = l := by unfold need1; rw [if_neg (fun q => by simp at c2; omega)]
   (repeat (first | refine aSeq fun X hX => ?_ | refine aSkip ?_ | (first | apply aReg | apply aIf); simp -implicitDefEqProofs only [↓slp, ↓reduceIte, reduceCtorEq, jA, jB, Y0, f8, f9, f10, pI, c1, g0, c2, hi'] | apply hX; clear hX X | apply And.intro; focus omega))
   rw [hI]
   exact ⟨⟨k + 1, o, hlt, f0, f1, f8, f9, rfl, by rw [hnx, hx0, hL1]; exact hg', hst⟩, by omega⟩
  | true =>
   have hge : 0 ≤ x := by simpa using c2
   (repeat (first | refine aSeq fun X hX => ?_ | refine aSkip ?_ | (first | apply aReg | apply aIf); simp -implicitDefEqProofs only [↓slp, ↓reduceIte, reduceCtorEq, jA, Y0, f0, f1, f8, f9, f10, pI, pN, c1, g0, c2, b1, b2, hnd, Nat.zero_add] | apply hX; clear hX X | apply And.intro; focus omega))
   refine callE (containsJ_any o l x m') ?_
   cases c3 : decide (x ∈ l) with
   | true =>
    have hx0 : need1 l x = l := by unfold need1; rw [if_neg (fun q => q.2 (by simpa using c3))]
    simp -implicitDefEqProofs only [↓slp, slb, ↓reduceIte, jA, pB]
    (repeat (first | refine aSkip ?_ | (first | apply aReg | apply aIf); simp -implicitDefEqProofs only [↓slp, slb, ↓reduceIte, jA, f10, pI, hi'] | apply hX; clear hX X))
    rw [hI]
    exact ⟨⟨k + 1, o, hlt, f0, f1, f8, f9, rfl, by rw [hnx, hx0, hL1]; exact hg', hst⟩, by omega⟩
   | false =>
    have hx0 : need1 l x = l ++ [x] := by unfold need1; rw [if_pos ⟨hge, by simpa using c3⟩]
    simp -implicitDefEqProofs only [↓slp, slb, ↓reduceIte, jA, pB]
    (repeat (first | refine aIf ?_; simp -implicitDefEqProofs only [slb, ↓reduceIte, reduceCtorEq, f10, pI] | apply hX; clear hX X))
    have hp : ∀ y : Subtype (fun m2 : M => m2.get gid = some [.gs id L1.length cap] ∧ m2.get id = some c), y.1.get gid = some [.gs id L1.length cap] := fun y => y.2.1
    have hp2 : ∀ y : Subtype (fun m2 : M => m2.get gid = some [.gs id L1.length cap] ∧ m2.get id = some c), y.1.get id = some c := fun y => y.2.2
    have hfr : o.free m' 1 := by have := (hg'.own i hi1).free; rw [hx1] at this; exact this
    have h11 := ints_one l
    have hmx : l.length + 1 ≤ maxLen := by unfold maxLen; omega
    have hss := splice_set c (i * 4 + 3) (.sl (.tok m'.nt) (l.map pI ++ [.v (.int .i64 x)])) hcl
    refine aDrwE (isP (fun m2 : M => m2.get gid = some [.gs id L1.length cap] ∧ m2.get id = some c)) (hne := List.cons_ne_nil _ _) rfl (by kernel_rfl) (by kernel_rfl) (isP_of ⟨b1, b2⟩) ?_
    simp -implicitDefEqProofs only [↓slp, ↓reduceIte, reduceCtorEq, jA, jC, jE, Y0, f0, f1, isP_all, b1, b2, hp, hp2, hnd, pN, Nat.zero_add, List.dropLast_cons_cons, List.dropLast_singleton, List.getLast_cons_cons, List.getLast_singleton]
    have hgu : ∀ id, ((o.use m').fresh 1).get id = m'.get id := fun id => by unfold M.get; rw [show ((o.use m').fresh 1).boxes = m'.boxes from use_boxes o m']
    have e1 : ((o.use m').fresh 1).get id = some c := by rw [hgu]; exact b2
    obtain ⟨q1, q2⟩ := hg'.more hi1 b0 b0' b1 b2 b3 b4 b5 b6 (l ++ [x])
    have hlx : (l ++ [x]).map pI = l.map pI ++ [.v (.int .i64 x)] := by simp
    rw [hlx] at q1 q2
    rw [hset] at q1
    have ho : L1[i].o = o := by rw [hx1]; rfl
    rw [ho] at q1 q2
    refine ⟨hi1, hcl, ⟨hfr, h11, hmx, by omega⟩, isP_of ⟨by rw [hgu]; exact b1, e1⟩, hi1, ?_⟩
    simp -implicitDefEqProofs only [slb, e1, hss]
    (repeat (first | refine aReg ?_; simp -implicitDefEqProofs only [↓slp, slb, ↓reduceIte, jA, f10, pI, hi'] | apply hX; clear hX X | apply And.intro; focus omega))
    rw [hI]
    exact ⟨⟨k + 1, .tok m'.nt, hlt, f0, f1, f8, f9, rfl, by rw [hnx, hx0]; exact q1, hst.trans q2⟩, by omega⟩
end Go.Proofs.Ytaealemhegdmpaa
