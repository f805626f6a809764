/-
 Texts that belong together: TpR, AbMk8c, TpS.
-/
-- halved
import Derived.Test.YthhhnfjcaicjnaaGreatDoorAbMac
import Derived.Test.YthhhnfjcaicjnaaGreatDoorQA
import Derived.Test.YthhhnfjcaicjnaaGreatDoorPlA
import Derived.Test.YthhhnfjcaicjnaaGreatDoorTeD
import Derived.Test.YthhhnfjcaicjnaaGreatDoorAbKit
import Derived.Test.YthhhnfjcaicjnaaGreatDoorArA
set_option linter.unusedVariables false
set_option linter.unusedSimpArgs false
namespace Go.Proofs.YthhhnfjcaicjnaaGreatDoor
open Nat renaming reduceEqDiff → jA, reduceAdd → jB, reduceMul → jC, reduceLT → jD, reduceLeDiff → jE, reduceBEq → jF, reduceBNe → jG
open Int renaming reduceLE → jH, reduceLT → jI, reduceToNat → jJ, reduceEq → jK
open Go
set_option maxRecDepth 20000
set_option linter.defProp false
def tfTpR := And.intro @tfA (And.intro @Ex.settle_pv (And.intro @Ex.pure_pv (And.intro @Ex.cells_pv (And.intro @Ex.cs.eq_1 (And.intro @On.pv.eq_1 (And.intro @Ty.pv.eq_1 (And.intro @Va.settle_pv (And.intro @Va.pure_pv (And.intro @Va.cells_pv (And.intro @Va.cs.eq_1 (And.intro @spt_nb (And.intro @spt_nt (And.intro @spt_fresh (And.intro @spt_use (And.intro @spt_free (And.intro @spt_alive (And.intro @spt_a (And.intro @spt_upda (And.intro @spt_ext (And.intro @spt_ext2 (And.intro @spt_ea (And.intro @spt_own (And.intro @spt_own0 (And.intro @spt_ou @spt_ou0))))))))))))))))))))))))

set_option maxHeartbeats 1000000 in
theorem snow_any (p : Int × Int) (a : Nat) (m : M) (hA : a < m.nb) (n : Int) : ACalls Tryz.prog 34 [.bp a 0] (spt p a m n) (fun v m' => v = pB (nxt n == p.1) ∧ m' = spt p a m (nxt n)) := by
 refine eN [] Tryz.func34 ?_
 (repeat revert X); refine wD (And.intro tfTpR hA) ?_; repeat intro X hX
 refine wQ Tryz.results34 aEQ_t ?_
 exact leave_spt0 hA (.refl m) rfl ⟨rfl, rfl⟩

theorem Ex.ars_app {E : List En} : ∀ {a : List Ex} {x : Ex}, Ex.ars E (a ++ [x]) ↔ Ex.ars E a ∧ x.ar E
 | [], x => by simp [Ex.ars]
 | b :: a, x => by rw [List.cons_append, Ex.ars, Ex.ars, Ex.ars_app, and_assoc]
def ColE (E : List En) : Prop := 0 ≤ ctorEn E ⟨#[82, 101, 100]⟩
mutual
def Ex.big : Ex → Nat
 | .mk _ _ _ _ _ ks _ _ => 4 + 3 * Ex.bigs ks
def Ex.bigs : List Ex → Nat
 | [] => 0
 | e :: r => e.big + Ex.bigs r
end
theorem Ex.big_eq (e : Ex) : e.big = 4 + 3 * Ex.bigs e.kids := by cases e; rfl
theorem Ex.bigs_app : ∀ {a : List Ex} {x : Ex}, Ex.bigs (a ++ [x]) = Ex.bigs a + x.big
 | [], x => by simp [Ex.bigs]
 | b :: a, x => by rw [List.cons_append, Ex.bigs, Ex.bigs, Ex.bigs_app, Nat.add_assoc]
theorem Ex.sizes_app : ∀ {a : List Ex} {x : Ex}, Ex.sizes (a ++ [x]) = Ex.sizes a + x.size
 | [], x => by simp [Ex.sizes]
 | b :: a, x => by rw [List.cons_append, Ex.sizes, Ex.sizes, Ex.sizes_app, Nat.add_assoc]
theorem Ex.nars_app : ∀ {a : List Ex} {x : Ex}, Ex.nars a → x.nar → Ex.nars (a ++ [x])
 | [], x, _, h => ⟨h, trivial⟩
 | b :: a, x, h, h2 => ⟨h.1, Ex.nars_app h.2 h2⟩
mutual
theorem Ex.size_big : ∀ e : Ex, e.size ≤ e.big
 | .mk _ _ _ _ _ ks _ _ => by rw [Ex.size, Ex.big]; have := Ex.sizes_big ks; omega
theorem Ex.sizes_big : ∀ l : List Ex, Ex.sizes l ≤ Ex.bigs l
 | [] => Nat.le_refl _
 | e :: r => by rw [Ex.sizes, Ex.bigs]; have := Ex.size_big e; have := Ex.sizes_big r; omega
end
def Ex.okg (e : Ex) : Prop := e.nar ∧ e.big ≤ 1000000
def Ex.okw (e : Ex) : Prop := e.nar ∧ e.size ≤ 1000000
theorem Ex.okg.weak {e : Ex} (h : e.okg) : e.okw := ⟨h.1, Nat.le_trans e.size_big h.2⟩
structure KeepE (e e' : Ex) : Prop where
 ar : ∀ E, ColE E → e.ar E → e'.ar E
 nar : e'.nar
 size : e'.size ≤ e.big
structure KeepK (a K : List Ex) : Prop where
 ar : ∀ E, ColE E → Ex.ars E a → Ex.ars E K
 nars : Ex.nars K
 sizes : Ex.sizes K ≤ Ex.bigs a
theorem KeepE.okw {e e' : Ex} (h : KeepE e e') (hb : e.big ≤ 1000000) : e'.okw := ⟨h.nar, Nat.le_trans h.size hb⟩
theorem KeepK.nil : KeepK [] [] := ⟨fun E _ h => h, trivial, Nat.le_refl _⟩
theorem KeepK.snoc {a K : List Ex} {x x' : Ex} (h : KeepK a K) (hx : KeepE x x') : KeepK (a ++ [x]) (K ++ [x']) := ⟨fun E hE h2 => by rw [Ex.ars_app] at h2; exact Ex.ars_app.2 ⟨h.ar E hE h2.1, hx.ar E hE h2.2⟩, Ex.nars_app h.nars hx.nar, by rw [Ex.sizes_app, Ex.bigs_app]; exact Nat.add_le_add h.sizes hx.size⟩
theorem KeepK.sz {e : Ex} {K : List Ex} (h : KeepK e.kids K) : (Ex.mk e.kind e.op e.n e.name e.names K e.line e.col).size ≤ 1 + Ex.bigs e.kids := by rw [Ex.size]; exact Nat.add_le_add_left h.sizes 1
theorem KeepK.all {e : Ex} {K : List Ex} (hl : K.length = e.kids.length) (hk : e.kids.length ≤ 1000000000) (h : KeepK e.kids K) : KeepE e (Ex.mk e.kind e.op e.n e.name e.names K e.line e.col) := ⟨fun E hE ha => by
 obtain ⟨h1, h2⟩ := Ex.ar_x ha
 rw [Ex.ar, hl]
 exact ⟨h1, h.ar E hE h2⟩, ⟨by rw [hl]; exact hk, h.nars⟩, by have := h.sz; rw [Ex.big_eq]; omega⟩
theorem keep_0 {e : Ex} {k o i l c : Int} {nm : Str} {ns : List Str} (h : ∀ E, ColE E → (Ex.mk k o i nm ns [] l c).ar E) : KeepE e (.mk k o i nm ns [] l c) := ⟨fun E hE _ => h E hE, ⟨by simp, trivial⟩, by rw [Ex.size, Ex.sizes, Ex.big_eq]; omega⟩
theorem keep_1 {e x : Ex} {k o i l c : Int} {nm : Str} {ns : List Str} (hx : KeepE e x) (hs : x.size ≤ 1 + Ex.bigs e.kids) (h : ∀ E, ColE E → e.ar E → (Ex.mk k o i nm ns [x] l c).ar E) : KeepE e (.mk k o i nm ns [x] l c) := ⟨h, ⟨by simp, hx.nar, trivial⟩, by rw [Ex.size, Ex.sizes, Ex.sizes, Ex.big_eq]; omega⟩
theorem keep_3 {e x : Ex} {k o i l c : Int} {nm : Str} {ns : List Str} (hx : KeepE e x) (hs : x.size ≤ 1 + Ex.bigs e.kids) (h : ∀ E, ColE E → e.ar E → (Ex.mk k o i nm ns [x, x, x] l c).ar E) : KeepE e (.mk k o i nm ns [x, x, x] l c) := ⟨h, ⟨by simp, hx.nar, hx.nar, hx.nar, trivial⟩, by rw [Ex.size, Ex.sizes, Ex.sizes, Ex.sizes, Ex.sizes, Ex.big_eq]; omega⟩
theorem ar_leaf {E : List En} {k o i : Int} {nm : Str} {l c : Int} (h : k = 1 ∨ k = 2 ∨ k = 4 ∨ k = 5 ∨ (k = 3 ∧ 0 ≤ ctorEn E nm)) : (Ex.mk k o i nm [] [] l c).ar E := by
 rw [Ex.ar]
 refine ⟨?_, trivial⟩
 unfold arK
 refine ⟨by omega, fun h3 => ?_, ?_⟩
 ·rcases h with h | h | h | h | h <;> first | omega | exact h.2
 ·simp only [List.length_nil]; omega
theorem ar_col {E : List En} (hE : ColE E) {o i l c : Int} : (Ex.mk 3 o i ⟨#[82, 101, 100]⟩ [] [] l c).ar E := ar_leaf (.inr (.inr (.inr (.inr ⟨rfl, hE⟩))))
theorem ar_wrap {E : List En} {k o i : Int} {nm : Str} {l c : Int} {ns : List Str} {ks : List Ex} (hs : Ex.ars E ks) (h : (k = 10 ∧ ks.length = 1 ∧ ns.length = 0) ∨ (k = 12 ∧ ks.length = 1 ∧ ns.length = 1) ∨ (k = 13 ∧ ks.length = 3 ∧ ns.length = 3)) : (Ex.mk k o i nm ns ks l c).ar E := by
 rw [Ex.ar]
 refine ⟨?_, hs⟩
 unfold arK
 omega
def SExA (p : Int × Int) (e : Ex) : Prop := e.nar → ∀ (a : Nat) (m : M), a < m.nb → ∀ n, ACalls Tryz.prog 35 [.bp a 0, e.pv] (spt p a m n) (fun v m' => ∃ (e' : Ex) (n' : Int), v = e'.pv ∧ KeepE e e' ∧ m' = spt p a m n')
set_option maxHeartbeats 8000000 in
theorem sexprA_any (p : Int × Int) (hp : 0 ≤ p.2) (e : Ex) : SExA p e := by
 refine Ex.ind (motive := SExA p) (fun e IH => ?_) e
 intro hn a m hA n
 obtain ⟨hkl, hks⟩ := Ex.nar_x hn
 refine eN [3, 4] Tryz.func35 ?_
 (repeat revert X); refine wE (And.intro tfTpR hA) ?_; repeat intro X hX
 refine callM (snow_any p a _ xA n) ?_
 rintro v m' ⟨rfl, rfl⟩
 generalize hnow : (nxt n == p.1) = b
 refine wS tfTpR ?_
 (repeat revert X); refine wE tfTpR ?_; repeat intro X hX
 obtain ⟨I, hI⟩ : ∃ I : F → M → Prop, ∀ f m', I f m' = (∃ (k : Nat) (o : Own) (mm : M) (K : List Ex) (n' : Int), k ≤ e.kids.length ∧ K.length = k ∧ KeepK (e.kids.take k) K ∧ f 0 = .bp a 0 ∧ f 3 = .bp m.nb 0 ∧ f 4 = .bp (m.nb + 1) 0 ∧ f 5 = pB b ∧ f 6 = .sl o (K.map Ex.pv) ∧ f 7 = pI k ∧
  m' = spt p a (mm.ext [some [.v (.int .u8 e.kind), .v (.int .u8 e.op), .v (.int .i32 e.n), .v (.string e.name), .sl .no (e.names.map pS), .sl .no (e.kids.map Ex.pv), .v (.int .i64 e.line), .v (.int .i64 e.col)], some [.v (.int .u8 0), .v (.int .u8 0), .v (.int .i32 0), .v (.string ⟨#[]⟩), .sl .full [], .sl .full [], .v (.int .i64 0), .v (.int .i64 0)]]) n' ∧ Toks m mm ∧ Mine m mm o 8) := ⟨_, fun _ _ => rfl⟩
 refine aLoop I (fun f m => e.kids.length - numOf (f 7)) ?_ ?_
 ·rw [hI]; exact ⟨0, .full, m, [], _, by omega, rfl, .nil, rfl, rfl, rfl, rfl, rfl, rfl, rfl, .refl m, .full⟩
 intro f m' hrel
 rw [hI] at hrel
 obtain ⟨k, o, mm, K, n', hk, hKl, hKK, f0, f3, f4, f5, f6, f7, rfl, ht, ho⟩ := hrel
 have hnb := ht.nb
 have hAm : a < mm.nb := by omega
 rw [← hnb] at f3 f4
 cases c1 : decide ((k : Int) < (e.kids.length : Int)) with
 | true =>
  have hlt : k < e.kids.length := by simpa using c1
  have hg := getD_map Ex.pv e.kids k hlt
  have hi : IntKind.i64.wrap ((k : Int) + 1) = ((k + 1 : Nat) : Int) := by rw [wrap64 (by omega)]; omega
  have hme : numOf (f 7) = k := by rw [f7]; exact Int.toNat_natCast k
  have ih := IH k hlt (Ex.nars_mem _ hks _ (List.getElem_mem hlt))
  have hst : e.kids.take (k + 1) = e.kids.take k ++ [e.kids[k]] := List.take_succ_eq_append_getElem hlt
  generalize e.kids[k] = x at *
  (repeat (first | refine aSeq fun X hX => ?_ | refine aBlk ?_ | refine aSkip ?_ | (first | apply aReg | apply aIf); simp -implicitDefEqProofs only [↓slp, slb, ↓reduceIte, reduceCtorEq, jA, jB, jD, jE, jF, tfTpR, f0, f3, f6, f7, pI, c1, hAm, hg]; try simp only [fo] | apply hX; clear hX X | intro hlen; unfold maxLen at hlen | apply And.intro; focus omega))
  refine callM (ih a _ (by rw [ext_nb]; omega) _) ?_
  rintro v m' ⟨x', n2, rfl, hKE, rfl⟩
  have hfree := ho.free
  have q1 : K.length + 1 ≤ maxLen := by unfold maxLen; omega
  have q2 : (K.length + 1) * 88 ≤ 140737488355328 := by omega
  have q3 := ex_len K
  refine wS (And.intro tfTpR (And.intro f7 @pI.eq_1)) ?_
  refine ⟨⟨hfree, q3, q1, q2⟩, ?_⟩
  (repeat (first | refine aReg ?_; simp -implicitDefEqProofs only [↓slp, slb, ↓reduceIte, jA, jF, tfTpR, f7, pI, hi]; try simp only [fo] | apply hX; clear hX X))
  rw [hI]
  exact ⟨⟨k + 1, .tok mm.nt, _, K ++ [x'], n2, hlt, by simp [hKl], (by rw [hst]; exact hKK.snoc hKE), f0, by rw [← hnb]; exact f3, by rw [← hnb]; exact f4, f5, by rw [List.map_append]; rfl, rfl, rfl, ht.use ho, Mine.new ht o 8⟩, by omega⟩
 | false =>
  clear IH hI
  have hkk : k = e.kids.length := by simp at c1; omega
  have hE1 : KeepE e (Ex.mk e.kind e.op e.n e.name e.names K e.line e.col) := KeepK.all (by rw [hKl, hkk]) hkl (by rw [hkk, List.take_length] at hKK; exact hKK)
  have hE3 : (Ex.mk e.kind e.op e.n e.name e.names K e.line e.col).size ≤ 1 + Ex.bigs e.kids := KeepK.sz (by rw [hkk, List.take_length] at hKK; exact hKK)
  cases b with
  | false =>
   (repeat revert X); refine wE (And.intro tfTpR (And.intro f3 (And.intro f4 (And.intro f5 (And.intro f6 (And.intro f7 (And.intro @pI.eq_1 (And.intro @pB.eq_1 (And.intro c1 hAm))))))))) ?_; repeat intro X hX
   refine wQ Tryz.results35 (And.intro tfTpR (And.intro f4 hAm)) ?_
   exact leave_spt hA ht rfl ⟨Ex.mk e.kind e.op e.n e.name e.names K e.line e.col, _, by rw [Ex.pv_eq]; rfl, hE1, rfl⟩
  | true =>
   obtain ⟨j, hj, hj1, hj2⟩ : ∃ j : Int, Int.tmod p.2 12 = j ∧ 0 ≤ j ∧ j < 12 := ⟨_, rfl, Int.tmod_nonneg _ hp, Int.tmod_lt_of_pos _ (by decide)⟩
   (repeat revert X); refine wE (And.intro tfTpR (And.intro f0 (And.intro f3 (And.intro f5 (And.intro f6 (And.intro f7 (And.intro @pI.eq_1 (And.intro @pB.eq_1 (And.intro c1 (And.intro hAm hj)))))))))) ?_; repeat intro X hX
   have ex8 : (PV.ag (Ex.mk e.kind e.op e.n e.name e.names K e.line e.col).cs).cells.length = 8 := rfl
   refine ⟨fun hb => ?_, fun hb => ?_⟩
   ·((repeat revert X); refine wE (And.intro tfTpR (And.intro f3 (And.intro f4 hAm))) ?_; repeat intro X hX)
    refine wQ Tryz.results35 (And.intro tfTpR (And.intro f4 hAm)) ?_
    exact leave_spt hA ht rfl ⟨Ex.mk 4 0 0 ⟨#[120]⟩ [] [] e.line e.col, _, by rw [Ex.pv_eq]; rfl, (by first | exact keep_0 (fun E hE => by first | exact ar_col hE | exact ar_leaf (by simp)) | exact keep_1 hE1 hE3 (fun E hE h => ar_wrap ⟨hE1.ar E hE h, trivial⟩ (by simp)) | exact keep_3 hE1 hE3 (fun E hE h => ar_wrap ⟨hE1.ar E hE h, hE1.ar E hE h, hE1.ar E hE h, trivial⟩ (by simp))), rfl⟩
   (repeat revert X); refine wE aEQ_t ?_; repeat intro X hX
   refine ⟨fun hb => ?_, fun hb => ?_⟩
   ·((repeat revert X); refine wE (And.intro tfTpR (And.intro f3 (And.intro f4 hAm))) ?_; repeat intro X hX)
    refine wQ Tryz.results35 (And.intro tfTpR (And.intro f4 hAm)) ?_
    exact leave_spt hA ht rfl ⟨Ex.mk 4 0 0 ⟨#[110, 111]⟩ [] [] e.line e.col, _, by rw [Ex.pv_eq]; rfl, (by first | exact keep_0 (fun E hE => by first | exact ar_col hE | exact ar_leaf (by simp)) | exact keep_1 hE1 hE3 (fun E hE h => ar_wrap ⟨hE1.ar E hE h, trivial⟩ (by simp)) | exact keep_3 hE1 hE3 (fun E hE h => ar_wrap ⟨hE1.ar E hE h, hE1.ar E hE h, hE1.ar E hE h, trivial⟩ (by simp))), rfl⟩
   (repeat revert X); refine wE aEQ_t ?_; repeat intro X hX
   refine ⟨fun hb => ?_, fun hb => ?_⟩
   ·((repeat revert X); refine wE (And.intro tfTpR (And.intro f3 (And.intro f4 hAm))) ?_; repeat intro X hX)
    refine wQ Tryz.results35 (And.intro tfTpR (And.intro f4 hAm)) ?_
    exact leave_spt hA ht rfl ⟨Ex.mk 1 0 5 ⟨#[]⟩ [] [] e.line e.col, _, by rw [Ex.pv_eq]; rfl, (by first | exact keep_0 (fun E hE => by first | exact ar_col hE | exact ar_leaf (by simp)) | exact keep_1 hE1 hE3 (fun E hE h => ar_wrap ⟨hE1.ar E hE h, trivial⟩ (by simp)) | exact keep_3 hE1 hE3 (fun E hE h => ar_wrap ⟨hE1.ar E hE h, hE1.ar E hE h, hE1.ar E hE h, trivial⟩ (by simp))), rfl⟩
   (repeat revert X); refine wE aEQ_t ?_; repeat intro X hX
   refine ⟨fun hb => ?_, fun hb => ?_⟩
   ·((repeat revert X); refine wE (And.intro tfTpR (And.intro f3 (And.intro f4 hAm))) ?_; repeat intro X hX)
    refine wQ Tryz.results35 (And.intro tfTpR (And.intro f4 hAm)) ?_
    exact leave_spt hA ht rfl ⟨Ex.mk 2 0 1 ⟨#[]⟩ [] [] e.line e.col, _, by rw [Ex.pv_eq]; rfl, (by first | exact keep_0 (fun E hE => by first | exact ar_col hE | exact ar_leaf (by simp)) | exact keep_1 hE1 hE3 (fun E hE h => ar_wrap ⟨hE1.ar E hE h, trivial⟩ (by simp)) | exact keep_3 hE1 hE3 (fun E hE h => ar_wrap ⟨hE1.ar E hE h, hE1.ar E hE h, hE1.ar E hE h, trivial⟩ (by simp))), rfl⟩
   (repeat revert X); refine wE aEQ_t ?_; repeat intro X hX
   refine ⟨fun hb => ?_, fun hb => ?_⟩
   ·((repeat revert X); refine wE (And.intro tfTpR (And.intro f3 (And.intro f4 hAm))) ?_; repeat intro X hX)
    refine wQ Tryz.results35 (And.intro tfTpR (And.intro f4 hAm)) ?_
    exact leave_spt hA ht rfl ⟨Ex.mk 10 0 0 ⟨#[]⟩ [] [Ex.mk e.kind e.op e.n e.name e.names K e.line e.col] e.line e.col, _, by rw [Ex.pv_eq, Ex.cs, show (Ex.mk 10 0 0 ⟨#[]⟩ [] [Ex.mk e.kind e.op e.n e.name e.names K e.line e.col] e.line e.col).kids = [Ex.mk e.kind e.op e.n e.name e.names K e.line e.col] from rfl]; simp only [List.map_cons, List.map_nil, Ex.pv_eq (Ex.mk e.kind e.op e.n e.name e.names K e.line e.col)]; rfl, (by first | exact keep_0 (fun E hE => by first | exact ar_col hE | exact ar_leaf (by simp)) | exact keep_1 hE1 hE3 (fun E hE h => ar_wrap ⟨hE1.ar E hE h, trivial⟩ (by simp)) | exact keep_3 hE1 hE3 (fun E hE h => ar_wrap ⟨hE1.ar E hE h, hE1.ar E hE h, hE1.ar E hE h, trivial⟩ (by simp))), rfl⟩
   (repeat revert X); refine wE aEQ_t ?_; repeat intro X hX
   refine ⟨fun hb => ?_, fun hb => ?_⟩
   ·((repeat revert X); refine wE (And.intro tfTpR (And.intro f3 (And.intro f4 hAm))) ?_; repeat intro X hX)
    refine wQ Tryz.results35 (And.intro tfTpR (And.intro f4 hAm)) ?_
    exact leave_spt hA ht rfl ⟨Ex.mk 12 0 0 ⟨#[121]⟩ [⟨#[82, 101, 100]⟩] [Ex.mk e.kind e.op e.n e.name e.names K e.line e.col] e.line e.col, _, by rw [Ex.pv_eq, Ex.cs, show (Ex.mk 12 0 0 ⟨#[121]⟩ [⟨#[82, 101, 100]⟩] [Ex.mk e.kind e.op e.n e.name e.names K e.line e.col] e.line e.col).kids = [Ex.mk e.kind e.op e.n e.name e.names K e.line e.col] from rfl]; simp only [List.map_cons, List.map_nil, Ex.pv_eq (Ex.mk e.kind e.op e.n e.name e.names K e.line e.col)]; rfl, (by first | exact keep_0 (fun E hE => by first | exact ar_col hE | exact ar_leaf (by simp)) | exact keep_1 hE1 hE3 (fun E hE h => ar_wrap ⟨hE1.ar E hE h, trivial⟩ (by simp)) | exact keep_3 hE1 hE3 (fun E hE h => ar_wrap ⟨hE1.ar E hE h, hE1.ar E hE h, hE1.ar E hE h, trivial⟩ (by simp))), rfl⟩
   (repeat revert X); refine wE aEQ_t ?_; repeat intro X hX
   refine ⟨fun hb => ?_, fun hb => ?_⟩
   ·((repeat revert X); refine wE (And.intro tfTpR (And.intro f3 (And.intro f4 hAm))) ?_; repeat intro X hX)
    refine wQ Tryz.results35 (And.intro tfTpR (And.intro f4 hAm)) ?_
    exact leave_spt hA ht rfl ⟨Ex.mk 5 0 0 ⟨#[120]⟩ [] [] e.line e.col, _, by rw [Ex.pv_eq]; rfl, (by first | exact keep_0 (fun E hE => by first | exact ar_col hE | exact ar_leaf (by simp)) | exact keep_1 hE1 hE3 (fun E hE h => ar_wrap ⟨hE1.ar E hE h, trivial⟩ (by simp)) | exact keep_3 hE1 hE3 (fun E hE h => ar_wrap ⟨hE1.ar E hE h, hE1.ar E hE h, hE1.ar E hE h, trivial⟩ (by simp))), rfl⟩
   (repeat revert X); refine wE aEQ_t ?_; repeat intro X hX
   refine ⟨fun hb => ?_, fun hb => ?_⟩
   ·((repeat revert X); refine wE (And.intro tfTpR (And.intro f3 (And.intro f4 hAm))) ?_; repeat intro X hX)
    refine wQ Tryz.results35 (And.intro tfTpR (And.intro f4 hAm)) ?_
    exact leave_spt hA ht rfl ⟨Ex.mk 3 0 0 ⟨#[82, 101, 100]⟩ [] [] e.line e.col, _, by rw [Ex.pv_eq]; rfl, (by first | exact keep_0 (fun E hE => by first | exact ar_col hE | exact ar_leaf (by simp)) | exact keep_1 hE1 hE3 (fun E hE h => ar_wrap ⟨hE1.ar E hE h, trivial⟩ (by simp)) | exact keep_3 hE1 hE3 (fun E hE h => ar_wrap ⟨hE1.ar E hE h, hE1.ar E hE h, hE1.ar E hE h, trivial⟩ (by simp))), rfl⟩
   (repeat revert X); refine wE aEQ_t ?_; repeat intro X hX
   refine ⟨fun hb => ?_, fun hb => ?_⟩
   ·((repeat revert X); refine wE (And.intro tfTpR (And.intro f3 (And.intro f4 hAm))) ?_; repeat intro X hX)
    refine wQ Tryz.results35 (And.intro tfTpR (And.intro f4 hAm)) ?_
    exact leave_spt hA ht rfl ⟨Ex.mk 4 0 0 ⟨#[121]⟩ [] [] e.line e.col, _, by rw [Ex.pv_eq]; rfl, (by first | exact keep_0 (fun E hE => by first | exact ar_col hE | exact ar_leaf (by simp)) | exact keep_1 hE1 hE3 (fun E hE h => ar_wrap ⟨hE1.ar E hE h, trivial⟩ (by simp)) | exact keep_3 hE1 hE3 (fun E hE h => ar_wrap ⟨hE1.ar E hE h, hE1.ar E hE h, hE1.ar E hE h, trivial⟩ (by simp))), rfl⟩
   (repeat revert X); refine wE aEQ_t ?_; repeat intro X hX
   refine ⟨fun hb => ?_, fun hb => ?_⟩
   ·((repeat revert X); refine wE (And.intro tfTpR (And.intro f3 (And.intro f4 hAm))) ?_; repeat intro X hX)
    refine wQ Tryz.results35 (And.intro tfTpR (And.intro f4 hAm)) ?_
    exact leave_spt hA ht rfl ⟨Ex.mk 4 0 0 ⟨#[98]⟩ [] [] e.line e.col, _, by rw [Ex.pv_eq]; rfl, (by first | exact keep_0 (fun E hE => by first | exact ar_col hE | exact ar_leaf (by simp)) | exact keep_1 hE1 hE3 (fun E hE h => ar_wrap ⟨hE1.ar E hE h, trivial⟩ (by simp)) | exact keep_3 hE1 hE3 (fun E hE h => ar_wrap ⟨hE1.ar E hE h, hE1.ar E hE h, hE1.ar E hE h, trivial⟩ (by simp))), rfl⟩
   (repeat revert X); refine wE aEQ_t ?_; repeat intro X hX
   refine ⟨fun hb => ?_, fun hb => ?_⟩
   ·((repeat revert X); refine wE (And.intro tfTpR (And.intro f3 (And.intro f4 hAm))) ?_; repeat intro X hX)
    refine wQ Tryz.results35 (And.intro tfTpR (And.intro f4 hAm)) ?_
    exact leave_spt hA ht rfl ⟨Ex.mk 4 0 0 ⟨#[118, 49]⟩ [] [] e.line e.col, _, by rw [Ex.pv_eq]; rfl, (by first | exact keep_0 (fun E hE => by first | exact ar_col hE | exact ar_leaf (by simp)) | exact keep_1 hE1 hE3 (fun E hE h => ar_wrap ⟨hE1.ar E hE h, trivial⟩ (by simp)) | exact keep_3 hE1 hE3 (fun E hE h => ar_wrap ⟨hE1.ar E hE h, hE1.ar E hE h, hE1.ar E hE h, trivial⟩ (by simp))), rfl⟩
   (repeat revert X); refine wE (And.intro tfTpR (And.intro f3 (And.intro f4 hAm))) ?_; repeat intro X hX
   refine wQ Tryz.results35 (And.intro tfTpR (And.intro f4 hAm)) ?_
   exact leave_spt hA ht rfl ⟨Ex.mk 13 0 0 ⟨#[121]⟩ [⟨#[82, 101, 100]⟩, ⟨#[71, 114, 101, 101, 110]⟩, ⟨#[66, 108, 117, 101]⟩] [Ex.mk e.kind e.op e.n e.name e.names K e.line e.col, Ex.mk e.kind e.op e.n e.name e.names K e.line e.col, Ex.mk e.kind e.op e.n e.name e.names K e.line e.col] e.line e.col, _, by rw [Ex.pv_eq, Ex.cs, show (Ex.mk 13 0 0 ⟨#[121]⟩ [⟨#[82, 101, 100]⟩, ⟨#[71, 114, 101, 101, 110]⟩, ⟨#[66, 108, 117, 101]⟩] [Ex.mk e.kind e.op e.n e.name e.names K e.line e.col, Ex.mk e.kind e.op e.n e.name e.names K e.line e.col, Ex.mk e.kind e.op e.n e.name e.names K e.line e.col] e.line e.col).kids = [Ex.mk e.kind e.op e.n e.name e.names K e.line e.col, Ex.mk e.kind e.op e.n e.name e.names K e.line e.col, Ex.mk e.kind e.op e.n e.name e.names K e.line e.col] from rfl]; simp only [List.map_cons, List.map_nil, Ex.pv_eq (Ex.mk e.kind e.op e.n e.name e.names K e.line e.col)]; rfl, (by first | exact keep_0 (fun E hE => by first | exact ar_col hE | exact ar_leaf (by simp)) | exact keep_1 hE1 hE3 (fun E hE h => ar_wrap ⟨hE1.ar E hE h, trivial⟩ (by simp)) | exact keep_3 hE1 hE3 (fun E hE h => ar_wrap ⟨hE1.ar E hE h, hE1.ar E hE h, hE1.ar E hE h, trivial⟩ (by simp))), rfl⟩

set_option linter.unusedVariables false
open Go
theorem callMS {P : Program} {g : FuncId} {args args' : List PV} {m : M} {R K Z : PV → M → Prop} (h : ACalls P g args' m R) (he : args.map PV.settle = args') (hk : ∀ v m', R v m' → K v m') : @ACallsI P g args m ⟨K, Z⟩ := by
 subst he
 refine ACallsZ.mono (Z := noZ) ⟨h.cc, fun G w vs hI hl hr => h.run G w vs hI (by simpa using hl) (fun j h1 h2 => ?_)⟩ hk (fun _ _ h => h.elim)
 simpa using (hr j (by simpa using h1) h2).settle

set_option linter.unusedVariables false
set_option linter.unusedSimpArgs false
open Nat renaming reduceEqDiff → jA, reduceAdd → jB, reduceMul → jC, reduceLT → jD, reduceLeDiff → jE, reduceBEq → jF, reduceBNe → jG
open Int renaming reduceLE → jH, reduceLT → jI, reduceToNat → jJ, reduceEq → jK
open Go
set_option maxRecDepth 20000
set_option linter.defProp false
def tfTpS := And.intro @tfA (And.intro @Ex.settle_pv (And.intro @Ex.pure_pv (And.intro @Ex.cells_pv (And.intro @Ex.cs.eq_1 (And.intro @On.pv.eq_1 (And.intro @Ty.pv.eq_1 (And.intro @Va.settle_pv (And.intro @Va.pure_pv (And.intro @Va.cells_pv (And.intro @Va.cs.eq_1 (And.intro @Tr.settle_pv (And.intro @Tr.pure_pv (And.intro @Tr.cells_pv (And.intro @Tr.cs.eq_1 (And.intro @spt_nb (And.intro @spt_nt (And.intro @spt_fresh (And.intro @spt_use (And.intro @spt_free (And.intro @spt_alive (And.intro @spt_a (And.intro @spt_upda (And.intro @spt_ext (And.intro @spt_ext2 (And.intro @spt_ea (And.intro @spt_own (And.intro @spt_own0 (And.intro @spt_ou @spt_ou0))))))))))))))))))))))))))))

set_option maxHeartbeats 8000000 in
theorem sways_any (p : Int × Int) (hp : 0 ≤ p.2) (l : List Tr) (hl : l.length ≤ 100000000) (hx : ∀ v ∈ l, v.e.okg) (a : Nat) (m : M) (hA : a < m.nb) (n : Int) : ACalls Tryz.prog 36 [.bp a 0, .sl .no (l.map Tr.pv)] (spt p a m n) (fun v m' => ∃ (l' : List Tr) (n' : Int), v = .sl .no (l'.map Tr.pv) ∧ l'.length ≤ l.length ∧ (∀ t ∈ l', t.e.okw) ∧ m' = spt p a m n') := by
 refine eN [7] Tryz.func36 ?_
 (repeat revert X); refine wE tfTpS ?_; repeat intro X hX
 obtain ⟨I, hI⟩ : ∃ I : F → M → Prop, ∀ f m', I f m' = (∃ (k : Nat) (o : Own) (mb : M) (P : List Tr) (c : Int), k ≤ l.length ∧ P.length ≤ k ∧ (∀ t ∈ P, t.e.okw) ∧ f 0 = .bp a 0 ∧ f 1 = .sl .no (l.map Tr.pv) ∧ f 5 = .sl o (P.map Tr.pv) ∧ f 6 = pI k ∧ m' = spt p a mb c ∧ BaseR m mb ∧ Mine m mb o 12) := ⟨_, fun _ _ => rfl⟩
 refine aLoop I (fun f m => l.length - numOf (f 6)) ?_ ?_
 ·rw [hI]; exact ⟨0, .full, m, [], _, by omega, Nat.le_refl _, (fun t ht => by cases ht), rfl, rfl, rfl, rfl, rfl, .refl m, .full⟩
 intro f m' hrel
 rw [hI] at hrel
 obtain ⟨k, o, mb, P, c, hk, hPl, hPo, f0, f1, f5, f6, rfl, hB, ho⟩ := hrel
 have hAb : a < mb.nb := Nat.lt_of_lt_of_le hA hB.nb
 cases c1 : decide ((k : Int) < (l.length : Int)) with
 | true =>
  have hlt : k < l.length := by simpa using c1
  have hg := getD_map Tr.pv l k hlt
  have hi : IntKind.i64.wrap ((k : Int) + 1) = ((k + 1 : Nat) : Int) := by rw [wrap64 (by omega)]; omega
  have hme : numOf (f 6) = k := by rw [f6]; exact Int.toNat_natCast k
  have hv := hx _ (List.getElem_mem hlt)
  generalize l[k] = x at *
  (repeat (first | refine aSeq fun X hX => ?_ | refine aSkip ?_ | (first | apply aReg | apply aIf); simp -implicitDefEqProofs only [↓slp, slb, ↓reduceIte, reduceCtorEq, jA, jB, jE, jF, tfTpS, f0, f1, f6, pI, c1, hAb, hg] | apply hX; clear hX X | intro hlen; unfold maxLen at hlen | apply And.intro; focus omega))
  refine callM (snow_any p a _ (by first | assumption | (rw [ext_nb]; omega)) _) ?_
  rintro v m' ⟨rfl, rfl⟩
  generalize hnow : (nxt c == p.1) = b
  refine wS f6 ?_
  (repeat (apply hX; clear hX X))
  have join : ∀ (f' : F) (y : Tr), y.e = x.e → f' 0 = .bp a 0 → f' 1 = .sl .no (l.map Tr.pv) → f' 5 = .sl o (P.map Tr.pv) → f' 6 = pI k → f' 7 = .bp mb.nb 0 → X f' (spt p a (mb.ext [some y.cs]) (nxt c)) := by
   clear f0 f1 f5
   intro f' y hy f0 f1 f5 f6' f7
   refine hX _ _ ?_
   clear hX X
   (repeat (first | refine aSeq fun X hX => ?_ | refine aReg ?_; simp -implicitDefEqProofs only [↓slp, slb, ↓reduceIte, reduceCtorEq, jA, jB, jE, jF, tfTpS, f0, f7, hAb]; try simp only [fo]))
   refine callM (sexprA_any p hp y.e (by rw [hy]; exact hv.1) a _ (by rw [ext_nb]; omega) _) ?_
   rintro v m' ⟨e', n2, rfl, hKE, rfl⟩
   have hfree := ho.free
   have q1 : P.length + 1 ≤ maxLen := by unfold maxLen; omega
   have q3 := trs_len P
   refine wS (And.intro tfTpS (And.intro f7 hAb)) ?_
   (repeat (first | refine aReg ?_; simp -implicitDefEqProofs only [forall_eq, ↓slp, slb, ↓reduceIte, jA, jB, jC, jE, jF, tfTpS, f5, f6', f7, hAb, pI, hi] | apply hX; clear hX X | apply And.intro; focus ((repeat' apply And.intro) <;> first | omega | assumption)))
   rw [hI]
   exact ⟨⟨k + 1, .tok mb.nt, _, P ++ [⟨e', y.to, y.resume, y.line, y.col⟩], n2, hlt, by simp; omega, (fun t ht => by
    rcases List.mem_append.1 ht with ht | ht
    ·exact hPo t ht
    ·cases List.mem_singleton.1 ht
     exact hKE.okw (by rw [hy]; exact hv.2)), f0, f1, by rw [List.map_append]; rfl, rfl, rfl, (hB.fresh ho).ext _, (Mine.newB hB o 12).ext _⟩, by omega⟩
  cases b with
  | false =>
   (repeat (first | refine aSkip ?_ | refine aIf ?_; simp -implicitDefEqProofs only [slb, ↓reduceIte, f6, pB]))
   exact join _ x rfl f0 f1 f5 f6 rfl
  | true =>
   obtain ⟨j, hj⟩ : ∃ j : Int, Int.tmod p.2 3 = j := ⟨_, rfl⟩
   (repeat (first | refine aSeq fun X hX => ?_ | (first | apply aReg | apply aIf); simp -implicitDefEqProofs only [↓slp, slb, ↓reduceIte, reduceCtorEq, jB, jF, jK, tfTpS, f0, f6, pB, hAb, hj] | apply hX; clear hX X))
   refine ⟨fun hb => ?_, fun hb => ?_⟩
   ·(repeat (refine aExit ?_; try simp only [slx, ↓reduceIte, jA, reduceCtorEq]))
    first | (rename_i X1 hX1 X2 hX2; refine hX1 _ _ ?_; clear hX1) | (rename_i X1 hX1 l1 X2 hX2; refine hX1 _ _ ?_; clear hX1) | (rename_i X1 hX1; refine hX1 _ _ ?_; clear hX1) | (rename_i X1 hX1 X2 hX2 X3 hX3; refine hX1 _ _ ?_; clear hX1)
    (repeat (refine aReg ?_; simp -implicitDefEqProofs only [↓slp, slb, ↓reduceIte, jA, jF, f6, pI, hi]))
    rw [hI]
    exact ⟨⟨k + 1, o, _, P, _, hlt, by omega, hPo, f0, f1, f5, rfl, rfl, hB.ext _, ho.ext _⟩, by omega⟩
   ·(repeat (first | refine aSeq fun X hX => ?_ | refine aSkip ?_ | (first | apply aReg | apply aIf); simp -implicitDefEqProofs only [↓slp, slb, ↓reduceIte, reduceCtorEq, jB, jF, jK, tfTpS, f0, hAb, hj] | apply hX; clear hX X))
    refine ⟨fun hb => ?_, fun hb => ?_⟩
    ·(repeat (refine aReg ?_; simp -implicitDefEqProofs only [↓slp, slb, ↓reduceIte, reduceCtorEq, jA, jB, jE, jF, tfTpS, hAb]))
     exact join _ ⟨x.e, ⟨#[78, 111]⟩, x.resume, x.line, x.col⟩ rfl f0 f1 f5 f6 rfl
    ·(repeat refine aSkip ?_)
     exact join _ x rfl f0 f1 f5 f6 rfl
 | false =>
  have hk' : k = l.length := by simp at c1; omega
  subst hk'
  (repeat revert X); refine wE (And.intro tfTpS (And.intro f1 (And.intro f5 (And.intro f6 (And.intro @pI.eq_1 c1))))) ?_; repeat intro X hX
  refine wR Tryz.results36 ?_
  exact leave_sptB hA hB rfl ⟨_, _, rfl, hPl, hPo, rfl⟩
set_option maxHeartbeats 8000000 in
theorem svars_any (p : Int × Int) (hp : 0 ≤ p.2) (l : List Va) (hl : l.length ≤ 100000000) (hx : ∀ v ∈ l, v.first.okg) (a : Nat) (m : M) (hA : a < m.nb) (n : Int) : ACalls Tryz.prog 16 [.bp a 0, .sl .no (l.map Va.pv)] (spt p a m n) (fun v m' => ∃ (l' : List Va) (n' : Int), v = .sl .no (l'.map Va.pv) ∧ l'.length ≤ l.length ∧ (∀ t ∈ l', t.first.okw) ∧ m' = spt p a m n') := by
 refine eN [7] Tryz.func16 ?_
 (repeat revert X); refine wE tfTpS ?_; repeat intro X hX
 obtain ⟨I, hI⟩ : ∃ I : F → M → Prop, ∀ f m', I f m' = (∃ (k : Nat) (o : Own) (mb : M) (P : List Va) (c : Int), k ≤ l.length ∧ P.length ≤ k ∧ (∀ t ∈ P, t.first.okw) ∧ f 0 = .bp a 0 ∧ f 1 = .sl .no (l.map Va.pv) ∧ f 5 = .sl o (P.map Va.pv) ∧ f 6 = pI k ∧ m' = spt p a mb c ∧ BaseR m mb ∧ Mine m mb o 15) := ⟨_, fun _ _ => rfl⟩
 refine aLoop I (fun f m => l.length - numOf (f 6)) ?_ ?_
 ·rw [hI]; exact ⟨0, .full, m, [], _, by omega, Nat.le_refl _, (fun t ht => by cases ht), rfl, rfl, rfl, rfl, rfl, .refl m, .full⟩
 intro f m' hrel
 rw [hI] at hrel
 obtain ⟨k, o, mb, P, c, hk, hPl, hPo, f0, f1, f5, f6, rfl, hB, ho⟩ := hrel
 have hAb : a < mb.nb := Nat.lt_of_lt_of_le hA hB.nb
 cases c1 : decide ((k : Int) < (l.length : Int)) with
 | true =>
  have hlt : k < l.length := by simpa using c1
  have hg := getD_map Va.pv l k hlt
  have hi : IntKind.i64.wrap ((k : Int) + 1) = ((k + 1 : Nat) : Int) := by rw [wrap64 (by omega)]; omega
  have hme : numOf (f 6) = k := by rw [f6]; exact Int.toNat_natCast k
  have hv := hx _ (List.getElem_mem hlt)
  generalize l[k] = x at *
  (repeat (first | refine aSeq fun X hX => ?_ | refine aSkip ?_ | (first | apply aReg | apply aIf); simp -implicitDefEqProofs only [↓slp, slb, ↓reduceIte, reduceCtorEq, jA, jB, jE, jF, tfTpS, f0, f1, f6, pI, c1, hAb, hg] | apply hX; clear hX X | intro hlen; unfold maxLen at hlen | apply And.intro; focus omega))
  refine callM (snow_any p a _ (by first | assumption | (rw [ext_nb]; omega)) _) ?_
  rintro v m' ⟨rfl, rfl⟩
  generalize hnow : (nxt c == p.1) = b
  refine wS f6 ?_
  (repeat (apply hX; clear hX X))
  have join : ∀ (f' : F) (y : Va) (oc on ok : Own), y.first.okg → f' 0 = .bp a 0 → f' 1 = .sl .no (l.map Va.pv) → f' 5 = .sl o (P.map Va.pv) → f' 6 = pI k → f' 7 = .bp mb.nb 0 → X f' (spt p a (mb.ext [some [.v (.string y.name), .v (.int .u8 y.t.kind), .v (.string y.t.name), .sl oc (y.clock.map On.pv), .v (.bool y.last), .v (.int .u8 y.first.kind), .v (.int .u8 y.first.op), .v (.int .i32 y.first.n), .v (.string y.first.name), .sl on (y.first.names.map pS), .sl ok (y.first.kids.map Ex.pv), .v (.int .i64 y.first.line), .v (.int .i64 y.first.col), .v (.int .i64 y.line), .v (.int .i64 y.col)]]) (nxt c)) := by
   clear f0 f1 f5
   intro f' y oc on ok hy f0 f1 f5 f6' f7
   refine hX _ _ ?_
   clear hX X
   have hfree := ho.free
   have q1 : P.length + 1 ≤ maxLen := by unfold maxLen; omega
   have q3 := va_len P
   cases c2 : y.last with
   | true =>
    (repeat (first | refine aSeq fun X hX => ?_ | (first | apply aReg | apply aIf); simp -implicitDefEqProofs only [↓slp, slb, ↓reduceIte, reduceCtorEq, jA, jB, jD, jE, jF, tfTpS, f0, f7, hAb] | apply hX; clear hX X))
    refine callMS (sexprA_any p hp y.first hy.1 a _ (by rw [ext_nb]; omega) _) (by rw [Ex.pv_eq]; simp only [List.map_cons, List.map_nil, PV.settle, PV.settles, Ex.cs]) ?_
    rintro v m' ⟨e', n2, rfl, hKE, rfl⟩
    refine wS (And.intro tfTpS (And.intro f7 hAb)) ?_
    (repeat (first | refine aReg ?_; simp -implicitDefEqProofs only [forall_eq, ↓slp, slb, ↓reduceIte, jA, jB, jC, jE, jF, tfTpS, f5, f6', f7, hAb, pI, hi] | apply hX; clear hX X | apply And.intro; focus ((repeat' apply And.intro) <;> first | omega | assumption)))
    rw [hI]
    exact ⟨⟨k + 1, .tok mb.nt, _, P ++ [⟨y.name, y.t, y.clock, true, e', y.line, y.col⟩], n2, hlt, by simp; omega, (fun t ht => by
     rcases List.mem_append.1 ht with ht | ht
     ·exact hPo t ht
     ·cases List.mem_singleton.1 ht
      exact hKE.okw hy.2), f0, f1, by rw [List.map_append]; rfl, rfl, rfl, (hB.fresh ho).ext _, (Mine.newB hB o 15).ext _⟩, by omega⟩
   | false =>
    (repeat (first | refine aSeq fun X hX => ?_ | refine aSkip ?_ | (first | apply aReg | apply aIf); simp -implicitDefEqProofs only [forall_eq, ↓slp, slb, ↓reduceIte, reduceCtorEq, jA, jB, jC, jD, jE, jF, tfTpS, f5, f6', f7, hAb, pI, hi] | apply hX; clear hX X | apply And.intro; focus ((repeat' apply And.intro) <;> first | omega | assumption)))
    rw [hI]
    exact ⟨⟨k + 1, .tok mb.nt, _, P ++ [⟨y.name, y.t, y.clock, false, y.first, y.line, y.col⟩], _, hlt, by simp; omega, (fun t ht => by
     rcases List.mem_append.1 ht with ht | ht
     ·exact hPo t ht
     ·cases List.mem_singleton.1 ht
      exact hy.weak), f0, f1, by rw [List.map_append]; rfl, rfl, rfl, (hB.fresh ho).ext _, (Mine.newB hB o 15).ext _⟩, by omega⟩
  cases b with
  | false =>
   (repeat (first | refine aSkip ?_ | refine aIf ?_; simp -implicitDefEqProofs only [slb, ↓reduceIte, f6, pB]))
   exact join _ x .no .no .no hv f0 f1 f5 f6 rfl
  | true =>
   obtain ⟨j, hj⟩ : ∃ j : Int, Int.tmod p.2 7 = j := ⟨_, rfl⟩
   (repeat (first | refine aSeq fun X hX => ?_ | (first | apply aReg | apply aIf); simp -implicitDefEqProofs only [↓slp, slb, ↓reduceIte, reduceCtorEq, jB, jF, jK, tfTpS, f0, f6, pB, hAb, hj] | apply hX; clear hX X))
   refine ⟨fun hb0 => ?_, fun hb0 => ?_⟩
   ·(repeat (refine aReg ?_; simp -implicitDefEqProofs only [↓slp, slb, ↓reduceIte, reduceCtorEq, jA, jB, jE, jF, tfTpS, hAb]))
    exact join _ ⟨⟨#[120]⟩, x.t, x.clock, x.last, x.first, x.line, x.col⟩ .no .no .no hv f0 f1 f5 f6 rfl
   (repeat (first | refine aSeq fun X hX => ?_ | (first | apply aReg | apply aIf); simp -implicitDefEqProofs only [↓slp, slb, ↓reduceIte, jA, jF] | apply hX; clear hX X))
   refine ⟨fun hb1 => ?_, fun hb1 => ?_⟩
   ·(repeat (refine aReg ?_; simp -implicitDefEqProofs only [↓slp, slb, ↓reduceIte, reduceCtorEq, jA, jB, jE, jF, tfTpS, hAb]))
    exact join _ ⟨x.name, ⟨1, ⟨#[]⟩⟩, x.clock, x.last, x.first, x.line, x.col⟩ .no .no .no hv f0 f1 f5 f6 rfl
   (repeat (first | refine aSeq fun X hX => ?_ | (first | apply aReg | apply aIf); simp -implicitDefEqProofs only [↓slp, slb, ↓reduceIte, jA, jF] | apply hX; clear hX X))
   refine ⟨fun hb2 => ?_, fun hb2 => ?_⟩
   ·(repeat (refine aReg ?_; simp -implicitDefEqProofs only [↓slp, slb, ↓reduceIte, reduceCtorEq, jA, jB, jE, jF, tfTpS, hAb]))
    exact join _ ⟨x.name, ⟨3, ⟨#[110, 111]⟩⟩, x.clock, x.last, x.first, x.line, x.col⟩ .no .no .no hv f0 f1 f5 f6 rfl
   (repeat (first | refine aSeq fun X hX => ?_ | (first | apply aReg | apply aIf); simp -implicitDefEqProofs only [↓slp, slb, ↓reduceIte, jA, jF] | apply hX; clear hX X))
   refine ⟨fun hb3 => ?_, fun hb3 => ?_⟩
   ·(repeat (refine aReg ?_; simp -implicitDefEqProofs only [forall_eq, ↓slp, slb, ↓reduceIte, reduceCtorEq, jA, jB, jC, jE, jF, tfTpS, hAb]))
    exact join _ ⟨x.name, x.t, [⟨⟨#[82, 101, 100]⟩, ⟨#[121]⟩⟩], x.last, x.first, x.line, x.col⟩ .full .no .no hv f0 f1 f5 f6 rfl
   (repeat (first | refine aSeq fun X hX => ?_ | (first | apply aReg | apply aIf); simp -implicitDefEqProofs only [↓slp, slb, ↓reduceIte, jA, jF] | apply hX; clear hX X))
   refine ⟨fun hb4 => ?_, fun hb4 => ?_⟩
   ·(repeat (first | refine aSeq fun X hX => ?_ | refine aReg ?_; simp -implicitDefEqProofs only [↓slp, slb, ↓reduceIte, reduceCtorEq, jA, jB, jD, jE, jF, tfTpS, hAb] | apply hX; clear hX X))
    exact join _ ⟨x.name, x.t, x.clock, !x.last, .mk 1 0 3 ⟨#[]⟩ [] [] 0 0, x.line, x.col⟩ .no .full .full (by exact ⟨⟨by simp, trivial⟩, by simp [Ex.big, Ex.bigs]⟩) f0 f1 f5 f6 rfl
   (repeat (first | refine aSeq fun X hX => ?_ | (first | apply aReg | apply aIf); simp -implicitDefEqProofs only [↓slp, slb, ↓reduceIte, jA, jF] | apply hX; clear hX X))
   refine ⟨fun hb5 => ?_, fun hb5 => ?_⟩
   ·(repeat (refine aReg ?_; simp -implicitDefEqProofs only [forall_eq, ↓slp, slb, ↓reduceIte, reduceCtorEq, jA, jB, jC, jE, jF, tfTpS, hAb]))
    exact join _ ⟨x.name, x.t, [⟨⟨#[116, 114, 117, 101]⟩, ⟨#[98]⟩⟩], x.last, x.first, x.line, x.col⟩ .full .no .no hv f0 f1 f5 f6 rfl
   refine vE aEQ_t ?_; repeat intro X hX
   first | (rename_i X1 hX1 X2 hX2; refine hX1 _ _ ?_; clear hX1) | (rename_i X1 hX1 l1 X2 hX2; refine hX1 _ _ ?_; clear hX1) | (rename_i X1 hX1; refine hX1 _ _ ?_; clear hX1) | (rename_i X1 hX1 X2 hX2 X3 hX3; refine hX1 _ _ ?_; clear hX1)
   (repeat (refine aReg ?_; simp -implicitDefEqProofs only [↓slp, slb, ↓reduceIte, jA, jF, f6, pI, hi]))
   rw [hI]
   exact ⟨⟨k + 1, o, _, P, _, hlt, by omega, hPo, f0, f1, f5, rfl, rfl, hB.ext _, ho.ext _⟩, by omega⟩
 | false =>
  have hk' : k = l.length := by simp at c1; omega
  subst hk'
  (repeat revert X); refine wE (And.intro tfTpS (And.intro f1 (And.intro f5 (And.intro f6 (And.intro @pI.eq_1 c1))))) ?_; repeat intro X hX
  refine wR Tryz.results16 ?_
  exact leave_sptB hA hB rfl ⟨_, _, rfl, hPl, hPo, rfl⟩
end Go.Proofs.YthhhnfjcaicjnaaGreatDoor
