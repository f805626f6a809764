/-
 Texts that belong together: Held, LexPut, LexE.
-/
-- halved
import Derived.Deep.RegionHeld
import Derived.Test.YtohgdopfjkjppaaGreatDoorLexM1
import Derived.WalkKit
import Derived.WalkSpells
import Derived.WalkLawsBesides
import Derived.Lib.Hide
import Derived.Deep.Light
import Derived.Deep.QuietTactic
import Derived.BigQuiet
import Derived.Deep.RegionHeld3
import Derived.Deep.AppendLies
import Derived.Deep.RegionLaw
namespace Go.Proofs.YtohgdopfjkjppaaGreatDoor
open Go

section
variable {P : Program} {ops : Array Oper} {Q : Exit → Act → World → Prop} {md : Region.Mode} {S : World → Prop} {D : Nat → Bool}

def wpAnyD (P : Program) (md : Region.Mode) (ops : Array Oper) (Q : Exit → Act → World → Prop) (S : World → Prop) (D : Nat → Bool) : Nat → Array Bool → Act → World → Prop
 | 0, listed, a, w => Region.ready md ops listed = [] ∧ Q .normal a w
 | fuel + 1, listed, a, w =>
  (Region.ready md ops listed = [] → Q .normal a w) ∧
  ∀ i ∈ Region.ready md ops listed, wpOp P ops Q i (fun a' w' => (D i = false → S w') ∧ wpAnyD P md ops Q S D fuel (listed.setIfInBounds i true) a' w') a w

theorem wpAny_of_D : ∀ (fuel : Nat) (listed : Array Bool) (a : Act) (w : World), wpAnyD P md ops Q S D fuel listed a w → wpAny P md ops Q fuel listed a w
 | 0, _, _, _, h => h
 | fuel + 1, _, _, _, h => ⟨h.1, fun i hi => wpOp_mono (fun a' w' h' => wpAny_of_D fuel _ a' w' h'.2) (h.2 i hi)⟩

theorem wpAnyD_first {i : Nat} {oi : Oper} {v : Value} (hi : ops[i]? = some oi) (hsel : ∀ (j : Nat) (o : Oper) cs b, ops[j]? = some o → o.op ≠ .select cs b)
    (hD : ∀ (j : Nat) (oj : Oper), ops[j]? = some oj → D j = true → ∃ e ∈ oj.after, Region.binds md e = true ∧ e.on = i)
    (hQ : ∀ c a w, Q (.panic c) (a.put oi.dst v) w → Q (.panic c) a w) :
    ∀ (fuel : Nat) (listed : Array Bool) (a : Act) (w : World),
     (∀ j oj, ops[j]? = some oj → j ≠ i → listed.getD j true = false → (∀ e ∈ oj.after, Region.binds md e = true → e.on ≠ i) → oi.apart ops oj = true) →
     i ∈ Region.ready md ops listed → YieldsIf P ops S oi v a → S w →
     wpAnyD P md ops Q S D fuel (listed.setIfInBounds i true) (a.put oi.dst v) w → wpAnyD P md ops Q S D (fuel + 1) listed a w := by
 intro fuel
 induction fuel with
 | zero =>
  intro listed a w _ hr hy hS H
  refine ⟨fun h => (by rw [h] at hr; cases hr), fun j hj => ?_⟩
  by_cases hji : j = i
  ·subst hji; exact hy.wpOp hi hS ⟨fun _ => hS, H⟩
  ·have := ready_mono hj hji
   rw [H.1] at this
   cases this
 | succ fuel ih =>
  intro listed a w hfree hr hy hS H
  refine ⟨fun h => (by rw [h] at hr; cases hr), fun j hj => ?_⟩
  by_cases hji : j = i
  ·subst hji; exact hy.wpOp hi hS ⟨fun _ => hS, H⟩
  ·have h1 := H.2 j (ready_mono hj hji)
   obtain ⟨hjun, oj, hoj, hall⟩ := mem_ready.1 hj
   have hnot : ∀ e ∈ oj.after, Region.binds md e = true → e.on ≠ i := fun e he hb heq => by
    have h1 := hall e he hb
    have h0 := (mem_ready.1 hr).1
    rw [heq] at h1
    rcases Nat.lt_or_ge i listed.size with h' | h'
    ·simp [h'] at h0 h1; rw [h0] at h1; cases h1
    ·simp [Array.getElem?_eq_none h'] at h1
   have hDj : D j = false := by
    cases hd : D j
    ·rfl
    ·obtain ⟨e, he, hb, ho⟩ := hD j oj hoj hd
     exact absurd ho (hnot e he hb)
   have h2 := wpOp_putIf hoj (hfree j oj hoj hji hjun hnot) (fun cs b => hsel i oi cs b hi) (fun cs b => hsel j oj cs b hoj) hQ hy h1
   have hfree' : ∀ k ok, ops[k]? = some ok → k ≠ i → (listed.setIfInBounds j true).getD k true = false →
       (∀ e ∈ ok.after, Region.binds md e = true → e.on ≠ i) → oi.apart ops ok = true := fun k ok hk hki hun hno => by
    refine hfree k ok hk hki ?_ hno
    by_cases hjk : j = k
    ·subst hjk; exact hjun
    ·rw [getD_set_ne true hjk] at hun; exact hun
   refine wpOp_mono (fun a' w' h3 => ⟨h3.2.1, ih (listed.setIfInBounds j true) a' w' hfree' (ready_mono hr (Ne.symm hji)) h3.1 (h3.2.1 hDj) ?_⟩) h2
   rw [Array.setIfInBounds_comm _ _ hji]
   exact h3.2.2

def waitB (md : Region.Mode) (ops : Array Oper) (D : Nat → Bool) (i : Nat) : Bool :=
 (List.range ops.size).all fun j => !D j || ((ops[j]?).map fun o => o.after.any fun e => Region.binds md e && e.on == i).getD true
theorem waitB_spec {i : Nat} (h : waitB md ops D i = true) (j : Nat) (oj : Oper) (hj : ops[j]? = some oj) (hd : D j = true) : ∃ e ∈ oj.after, Region.binds md e = true ∧ e.on = i := by
 have hlt : j < ops.size := by
  rcases Nat.lt_or_ge j ops.size with h' | h'
  ·exact h'
  ·rw [Array.getElem?_eq_none h'] at hj; cases hj
 have h1 := List.all_eq_true.1 h j (List.mem_range.2 hlt)
 simp only [hd, hj, Bool.not_true, Bool.false_or, Option.map_some, Option.getD_some] at h1
 obtain ⟨e, he, hb⟩ := Array.any_eq_true'.1 h1
 simp only [Bool.and_eq_true, beq_iff_eq] at hb
 exact ⟨e, he, hb.1, hb.2⟩

theorem wpAnyD_take {i : Nat} {oi : Oper} {v : Value} {fuel : Nat} {listed : Array Bool} {a : Act} {w : World} (hi : ops[i]? = some oi)
    (hs : Region.noSelect ops = true) (hf : Region.free md ops listed i = true) (hr : (Region.ready md ops listed).contains i = true) (hD : waitB md ops D i = true)
    (hQ : ∀ c a w, Q (.panic c) (a.put oi.dst v) w → Q (.panic c) a w) (hy : YieldsIf P ops S oi v a) (hS : S w)
    (h : wpAnyD P md ops Q S D fuel (listed.setIfInBounds i true) (a.put oi.dst v) w) : wpAnyD P md ops Q S D (fuel + 1) listed a w :=
 wpAnyD_first hi (Region.noSelect_spec hs) (waitB_spec hD) hQ fuel listed a w (Region.free_spec hi hf) (by simpa using hr) hy hS h

theorem wpAnyD_one {i : Nat} {o : Oper} {fuel : Nat} {listed : Array Bool} {a : Act} {w : World} (hr : Region.ready md ops listed = [i]) (ho : ops[i]? = some o)
    (h : ∀ K' : Act → World → Prop, Shut (∀ a w, (D i = false → S w) → ((D i = false → S w) → wpAnyD P md ops Q S D fuel (listed.setIfInBounds i true) a w) → K' a w) →
     if Region.wanted o (yielded ops a.tmps) = true then Oper.wp P o a w K' Q else K' (a.put o.dst undef) w) : wpAnyD P md ops Q S D (fuel + 1) listed a w := by
 refine ⟨fun h0 => absurd (hr.symm.trans h0) (by simp), fun j hj => ?_⟩
 have hj := hr ▸ hj
 obtain rfl : j = i := by simpa using hj
 exact wpOp_step ho (fun K' hK => h K' (fun a w hS hW => hK a w ⟨hS, hW hS⟩))

theorem wpAnyD_done {listed : Array Bool} {a : Act} {w : World} (hr : Region.ready md ops listed = []) (h : Q .normal a w) :
    ∀ fuel, wpAnyD P md ops Q S D fuel listed a w
 | 0 => ⟨hr, h⟩
 | _ + 1 => ⟨fun _ => h, by rw [hr]; simp⟩

theorem wp_region_D {id : Nat} {a : Act} {w : World} (S : World → Prop) (D : Nat → Bool) (hm : P.follows .mixedOrders = true) (hS : S w.drew)
    (h : S w.drew → wpAnyD P .any ops Q S D ops.size (Array.replicate ops.size false) a w.drew) : (Code.region id ops true).wp P Q a w :=
 wp_region_any hm (wpAny_of_D _ _ _ _ (h hS))
end

set_option linter.unusedVariables false
set_option linter.unusedSimpArgs false
open Go.RowKit

theorem RdAt.set4 {w : World} {R : Nat} {s : ByteArray} {i line frm : Nat} {out : Value} (h : RdAt w R s i line frm out) (v : Value) : RdAt (w.setCell ⟨R, 4, none⟩ v) R s i line frm v := by
 unfold RdAt at *
 simp [World.setCell, Array.getElem?_modify, h]
theorem RdAt.set1 {w : World} {R : Nat} {s : ByteArray} {i line frm : Nat} {out : Value} (h : RdAt w R s i line frm out) (j : Nat) : RdAt (w.setCell ⟨R, 1, none⟩ (.int .i64 j)) R s j line frm out := by
 unfold RdAt at *
 simp [World.setCell, Array.getElem?_modify, h]
theorem own_set {w : World} {base e size n : Nat} {v : Value} {xs : List Value} (h : w.ownsRow base e size v n xs) {p : Addr} (hne : some p.block ≠ v.ownBlock) (u : Value) : (w.setCell p u).ownsRow base e size v n xs := by
 refine ⟨h.1, h.2.imp id ?_⟩
 rintro ⟨g, cap, cur, hv, hB, hh, hr⟩
 refine ⟨g, cap, cur, hv, hB, (Below.heap_setCell w p u g ?_).trans hh, hr⟩
 intro e
 apply hne
 rw [hv, ← e]; rfl
theorem rd_own_ne {w : World} {R : Nat} {s : ByteArray} {i line frm n base : Nat} {out v : Value} {xs : List Value} (h1 : RdAt w R s i line frm out) (h : w.ownsRow base 80 5 v n xs) : some R ≠ v.ownBlock := by
 rcases h.2 with ⟨rfl, _⟩ | ⟨g, cap, cur, rfl, _, hh, _⟩
 ·simp [Value.ownBlock]
 ·intro he
  have : R = g := by simpa [Value.ownBlock] using he
  subst this
  unfold RdAt at h1
  rw [h1] at hh
  injection hh with hh
  injection hh with _ ht
  exact absurd ht (by decide)

set_option maxHeartbeats 2000000 in
theorem put_any (B R : Nat) (s : ByteArray) (i line frm n : Nat) (kind v : Int) (toks : List Tok) (out : Value) (w : World) (h : Rd B w R s i line frm toks out)
    (hs : s.size ≤ 65536) (hi : i + n ≤ s.size) (hf : frm ≤ i) (hl : line ≤ 70000) (ht : toks.length ≤ i) :
    Calls Tryz.prog 106 #[.pointer (some ⟨R, 0, none⟩), .int .u8 kind, .int .i64 n, .int .i32 v] w fun e w' => e = .returned (.tuple #[]) ∧
     ∃ out', Rd B w' R s (i + n) line frm (toks ++ [⟨kind, s.extract i (i + n), v, line, i - frm + 1⟩]) out' ∧ Below B w w' := by
 obtain ⟨i0, hi0, hz0, hz1, hz2⟩ := info_parts info_tok
 have hR := RdAt.lt h.at_
 have hne := ne_of_tok h
 have hown := h.own
 have hat := h.at_
 have c0 : w.cell? ⟨R, 0, none⟩ = some (.string s) := by unfold RdAt at hat; simp [World.cell?, hat]
 have c1 : w.cell? ⟨R, 1, none⟩ = some (.int .i64 i) := by unfold RdAt at hat; simp [World.cell?, hat]
 have c2 : w.cell? ⟨R, 2, none⟩ = some (.int .i64 line) := by unfold RdAt at hat; simp [World.cell?, hat]
 have c3 : w.cell? ⟨R, 3, none⟩ = some (.int .i64 frm) := by unfold RdAt at hat; simp [World.cell?, hat]
 have c4 : w.cell? ⟨R, 4, none⟩ = some out := by unfold RdAt at hat; simp [World.cell?, hat]
 have hB := h.le
 have g1 : (0 : Int) ≤ (i : Int) := Int.natCast_nonneg _
 have g2 : (i : Int) ≤ (i : Int) + (n : Int) := by omega
 have g3 : (i : Int) + (n : Int) ≤ (s.size : Int) := by omega
 have g4 : IntKind.i64.wrap ((i : Int) + (n : Int)) = (i : Int) + (n : Int) := IntWalk.i64_in _ (by omega)
 have g5 : ((i : Int) + (n : Int)).toNat = i + n := by omega
 have g6 : (0 : Int) ≤ (i : Int) + (n : Int) := by omega
 have HAT := Lib.hid hat
 have HOWN := Lib.hid hown
 have H := Lib.hid h
 clear hat hown h
 go_enter Tryz.func106, Tryz.ntmps106
 go_wp2_with fail
 refine wp_region_D (fun w' => w'.cell? ⟨R, 0, none⟩ = some (.string s) ∧ w'.cell? ⟨R, 1, none⟩ = some (.int .i64 i) ∧ w'.cell? ⟨R, 2, none⟩ = some (.int .i64 line) ∧ w'.cell? ⟨R, 3, none⟩ = some (.int .i64 frm) ∧ w'.cell? ⟨R, 4, none⟩ = some out) (fun j => j == 29) (by kernel_rfl) ?_ (fun hHeld => ?_)
 ·exact ⟨c0, c1, c2, c3, c4⟩
 refine wpAnyD_take (i := 0) (v := ?v0) rfl (by kernel_rfl) (by kernel_rfl) (by kernel_rfl) (by kernel_rfl) (fun _ _ _ h => h) (Or.inl ⟨by rfl, ?h0⟩) hHeld ?_
 case h0 => (intro w hSw; (try dsimp only at hSw); go_simp; try with_reducible rfl)
 try simp only [Act.put, List.setIfInBounds_toArray, List.set_cons_zero, List.set_cons_succ]
 refine wpAnyD_take (i := 1) (v := ?v1) rfl (by kernel_rfl) (by kernel_rfl) (by kernel_rfl) (by kernel_rfl) (fun _ _ _ h => h) (Or.inl ⟨by rfl, ?h1⟩) hHeld ?_
 case h1 => (intro w hSw; (try dsimp only at hSw); go_simp; try with_reducible rfl)
 try simp only [Act.put, List.setIfInBounds_toArray, List.set_cons_zero, List.set_cons_succ]
 refine wpAnyD_take (i := 2) (v := ?v2) rfl (by kernel_rfl) (by kernel_rfl) (by kernel_rfl) (by kernel_rfl) (fun _ _ _ h => h) (Or.inl ⟨by rfl, ?h2⟩) hHeld ?_
 case h2 => (intro w hSw; (try dsimp only at hSw); go_simp; try with_reducible rfl)
 try simp only [Act.put, List.setIfInBounds_toArray, List.set_cons_zero, List.set_cons_succ]
 refine wpAnyD_take (i := 3) (v := ?v3) rfl (by kernel_rfl) (by kernel_rfl) (by kernel_rfl) (by kernel_rfl) (fun _ _ _ h => h) (Or.inl ⟨by rfl, ?h3⟩) hHeld ?_
 case h3 => (intro w hSw; (try dsimp only at hSw); go_simp; try with_reducible rfl)
 try simp only [Act.put, List.setIfInBounds_toArray, List.set_cons_zero, List.set_cons_succ]
 refine wpAnyD_take (i := 4) (v := ?v4) rfl (by kernel_rfl) (by kernel_rfl) (by kernel_rfl) (by kernel_rfl) (fun _ _ _ h => h) (Or.inl ⟨by rfl, ?h4⟩) hHeld ?_
 case h4 => (intro w hSw; (try dsimp only at hSw); go_simp; try with_reducible rfl)
 try simp only [Act.put, List.setIfInBounds_toArray, List.set_cons_zero, List.set_cons_succ]
 refine wpAnyD_take (i := 5) (v := ?v5) rfl (by kernel_rfl) (by kernel_rfl) (by kernel_rfl) (by kernel_rfl) (fun _ _ _ h => h) (Or.inl ⟨by rfl, ?h5⟩) hHeld ?_
 case h5 => (intro w hSw; (try dsimp only at hSw); go_simp; try with_reducible rfl)
 try simp only [Act.put, List.setIfInBounds_toArray, List.set_cons_zero, List.set_cons_succ]
 refine wpAnyD_take (i := 6) (v := ?v6) rfl (by kernel_rfl) (by kernel_rfl) (by kernel_rfl) (by kernel_rfl) (fun _ _ _ h => h) (Or.inl ⟨by rfl, ?h6⟩) hHeld ?_
 case h6 => (intro w hSw; (try dsimp only at hSw); go_simp; try with_reducible rfl)
 try simp only [Act.put, List.setIfInBounds_toArray, List.set_cons_zero, List.set_cons_succ]
 refine wpAnyD_take (i := 7) (v := ?v7) rfl (by kernel_rfl) (by kernel_rfl) (by kernel_rfl) (by kernel_rfl) (fun _ _ _ h => h) (Or.inl ⟨by rfl, ?h7⟩) hHeld ?_
 case h7 => (intro w hSw; (try dsimp only at hSw); go_simp; try with_reducible rfl)
 try simp only [Act.put, List.setIfInBounds_toArray, List.set_cons_zero, List.set_cons_succ]
 refine wpAnyD_take (i := 8) (v := ?v8) rfl (by kernel_rfl) (by kernel_rfl) (by kernel_rfl) (by kernel_rfl) (fun _ _ _ h => h) (Or.inl ⟨by rfl, ?h8⟩) hHeld ?_
 case h8 => (intro w hSw; (try dsimp only at hSw); go_simp; try with_reducible rfl)
 try simp only [Act.put, List.setIfInBounds_toArray, List.set_cons_zero, List.set_cons_succ]
 refine wpAnyD_take (i := 9) (v := ?v9) rfl (by kernel_rfl) (by kernel_rfl) (by kernel_rfl) (by kernel_rfl) (fun _ _ _ h => h) (Or.inl ⟨by rfl, ?h9⟩) hHeld ?_
 case h9 => (intro w hSw; (try dsimp only at hSw); go_simp; try with_reducible rfl)
 try simp only [Act.put, List.setIfInBounds_toArray, List.set_cons_zero, List.set_cons_succ]
 refine wpAnyD_take (i := 10) (v := ?v10) rfl (by kernel_rfl) (by kernel_rfl) (by kernel_rfl) (by kernel_rfl) (fun _ _ _ h => h) (Or.inl ⟨by rfl, ?h10⟩) hHeld ?_
 case h10 => (intro w hSw; (try dsimp only at hSw); go_simp; try with_reducible rfl)
 try simp only [Act.put, List.setIfInBounds_toArray, List.set_cons_zero, List.set_cons_succ]
 refine wpAnyD_take (i := 11) (v := ?v11) rfl (by kernel_rfl) (by kernel_rfl) (by kernel_rfl) (by kernel_rfl) (fun _ _ _ h => h) (Or.inl ⟨by rfl, ?h11⟩) hHeld ?_
 case h11 => (intro w hSw; (try dsimp only at hSw); go_simp; try with_reducible rfl)
 try simp only [Act.put, List.setIfInBounds_toArray, List.set_cons_zero, List.set_cons_succ]
 refine wpAnyD_take (i := 12) (v := ?v12) rfl (by kernel_rfl) (by kernel_rfl) (by kernel_rfl) (by kernel_rfl) (fun _ _ _ h => h) (Or.inl ⟨by rfl, ?h12⟩) hHeld ?_
 case h12 => (intro w hSw; (try dsimp only at hSw); go_simp; try with_reducible rfl)
 try simp only [Act.put, List.setIfInBounds_toArray, List.set_cons_zero, List.set_cons_succ]
 refine wpAnyD_take (i := 13) (v := ?v13) rfl (by kernel_rfl) (by kernel_rfl) (by kernel_rfl) (by kernel_rfl) (fun _ _ _ h => h) (Or.inl ⟨by rfl, ?h13⟩) hHeld ?_
 case h13 => (intro w hSw; (try dsimp only at hSw); go_simp; try with_reducible rfl)
 try simp only [Act.put, List.setIfInBounds_toArray, List.set_cons_zero, List.set_cons_succ]
 refine wpAnyD_take (i := 14) (v := ?v14) rfl (by kernel_rfl) (by kernel_rfl) (by kernel_rfl) (by kernel_rfl) (fun _ _ _ h => h) (Or.inl ⟨by rfl, ?h14⟩) hHeld ?_
 case h14 => (intro w hSw; (try dsimp only at hSw); go_simp; try with_reducible rfl)
 try simp only [Act.put, List.setIfInBounds_toArray, List.set_cons_zero, List.set_cons_succ]
 refine wpAnyD_take (i := 15) (v := ?v15) rfl (by kernel_rfl) (by kernel_rfl) (by kernel_rfl) (by kernel_rfl) (fun _ _ _ h => h) (Or.inl ⟨by rfl, ?h15⟩) hHeld ?_
 case h15 => (intro w hSw; (try dsimp only at hSw); go_simp; try with_reducible rfl)
 try simp only [Act.put, List.setIfInBounds_toArray, List.set_cons_zero, List.set_cons_succ]
 refine wpAnyD_take (i := 16) (v := ?v16) rfl (by kernel_rfl) (by kernel_rfl) (by kernel_rfl) (by kernel_rfl) (fun _ _ _ h => h) (Or.inl ⟨by rfl, ?h16⟩) hHeld ?_
 case h16 => (intro w hSw; (try dsimp only at hSw); go_simp; try with_reducible rfl)
 try simp only [Act.put, List.setIfInBounds_toArray, List.set_cons_zero, List.set_cons_succ]
 refine wpAnyD_take (i := 17) (v := ?v17) rfl (by kernel_rfl) (by kernel_rfl) (by kernel_rfl) (by kernel_rfl) (fun _ _ _ h => h) (Or.inl ⟨by rfl, ?h17⟩) hHeld ?_
 case h17 => (intro w hSw; (try dsimp only at hSw); go_simp; try with_reducible rfl)
 try simp only [Act.put, List.setIfInBounds_toArray, List.set_cons_zero, List.set_cons_succ]
 refine wpAnyD_take (i := 18) (v := ?v18) rfl (by kernel_rfl) (by kernel_rfl) (by kernel_rfl) (by kernel_rfl) (fun _ _ _ h => h) (Or.inl ⟨by rfl, ?h18⟩) hHeld ?_
 case h18 => (intro w hSw; (try dsimp only at hSw); go_simp; try with_reducible rfl)
 try simp only [Act.put, List.setIfInBounds_toArray, List.set_cons_zero, List.set_cons_succ]
 refine wpAnyD_take (i := 19) (v := ?v19) rfl (by kernel_rfl) (by kernel_rfl) (by kernel_rfl) (by kernel_rfl) (fun _ _ _ h => h) (Or.inl ⟨by rfl, ?h19⟩) hHeld ?_
 case h19 => (intro w hSw; (try dsimp only at hSw); go_simp; try with_reducible rfl)
 try simp only [Act.put, List.setIfInBounds_toArray, List.set_cons_zero, List.set_cons_succ]
 refine wpAnyD_take (i := 20) (v := ?v20) rfl (by kernel_rfl) (by kernel_rfl) (by kernel_rfl) (by kernel_rfl) (fun _ _ _ h => h) (Or.inl ⟨by rfl, ?h20⟩) hHeld ?_
 case h20 => (intro w hSw; (try dsimp only at hSw); go_simp; try with_reducible rfl)
 try simp only [Act.put, List.setIfInBounds_toArray, List.set_cons_zero, List.set_cons_succ]
 refine wpAnyD_take (i := 21) (v := ?v21) rfl (by kernel_rfl) (by kernel_rfl) (by kernel_rfl) (by kernel_rfl) (fun _ _ _ h => h) (Or.inl ⟨by rfl, ?h21⟩) hHeld ?_
 case h21 => (intro w hSw; (try dsimp only at hSw); go_simp; try with_reducible rfl)
 try simp only [Act.put, List.setIfInBounds_toArray, List.set_cons_zero, List.set_cons_succ]
 refine wpAnyD_take (i := 22) (v := ?v22) rfl (by kernel_rfl) (by kernel_rfl) (by kernel_rfl) (by kernel_rfl) (fun _ _ _ h => h) (Or.inl ⟨by rfl, ?h22⟩) hHeld ?_
 case h22 => (intro w hSw; (try dsimp only at hSw); go_simp; try with_reducible rfl)
 try simp only [Act.put, List.setIfInBounds_toArray, List.set_cons_zero, List.set_cons_succ]
 refine wpAnyD_one (i := 23) (by kernel_rfl) rfl (fun K hK => ?_)
 go_simp
 refine (pos_any R s i line frm out _ (by exact HAT.out) (by omega) hf).mono ?_
 rintro e w1 ⟨rfl, hb⟩
 have r1 : RdAt w1 R s i line frm out := (hb.block R hR).trans HAT.out
 have hR1 : R < w1.heap.size := Nat.lt_of_lt_of_le hR hb.size
 have own1 := Lib.hid (own_below (W := w.drew) HOWN.out hb)
 have R1 := Lib.hid r1
 clear r1
 go_simp
 refine hK.out _ _ (fun _ => ?_) (fun hHeld1 => ?_)
 ·exact R1.out.cells
 replace hHeld := hHeld1 rfl
 clear hHeld1
 clear hK K
 try simp only [Act.put, List.setIfInBounds_toArray, List.set_cons_zero, List.set_cons_succ]
 refine wpAnyD_take (i := 24) (v := ?v24) rfl (by kernel_rfl) (by kernel_rfl) (by kernel_rfl) (by kernel_rfl) (fun _ _ _ h => h) (Or.inl ⟨by rfl, ?h24⟩) hHeld ?_
 case h24 => (intro w hSw; (try dsimp only at hSw); go_simp; try with_reducible rfl)
 try simp only [Act.put, List.setIfInBounds_toArray, List.set_cons_zero, List.set_cons_succ]
 refine wpAnyD_one (i := 25) (by kernel_rfl) rfl (fun K hK => ?_)
 go_simp
 refine hK.out _ _ (fun _ => ?_) (fun hHeld1 => ?_)
 ·exact (RdAt.cells (w := w1.alloc _) ((Below.heap_alloc w1 _ R hR1).trans R1.out))
 replace hHeld := hHeld1 rfl
 clear hHeld1
 clear hK K
 try simp only [Act.put, List.setIfInBounds_toArray, List.set_cons_zero, List.set_cons_succ]
 refine wpAnyD_one (i := 26) (by kernel_rfl) rfl (fun K hK => ?_)
 refine step_append_lies _ (by rfl) _ _ _ (by rfl) B 80 i0 _ 5 48 Tryz.underlying73 hi0 hz0 hz1 hz2 rfl (by omega) out toks.length (tokCells toks) (by rfl) (own1.out.alloc _) ⟨w1.heap.size, 0, none⟩ 1 1 (Tok.cells ⟨kind, s.extract i (i + n), v, line, i - frm + 1⟩) (by rfl) (by rfl) (World.news_of_block (cs := (Tok.cells ⟨kind, s.extract i (i + n), v, line, i - frm + 1⟩).toArray) (t := 80) (fr := (0, 0)) (heap_alloc_new w1 _)) (by simp [Value.oneCell', Tok.cells]) (by omega) (by simp [maxLen]; omega) (by omega) (by simp; omega) (w1.heap.size + 1) (by simp) ?_
 intro gg cap w2 hown1 hgrow hat hlt
 have r2 : RdAt w2 R s i line frm out := ((hgrow.block R (by simp; omega) hne).trans (Below.heap_alloc w1 _ R hR1)).trans R1.out
 have R2 := Lib.hid r2
 clear r2
 refine hK.out _ _ (fun _ => ?_) (fun hHeld1 => ?_)
 ·exact R2.out.cells
 replace hHeld := hHeld1 rfl
 clear hHeld1
 clear hK K
 try simp only [Act.put, List.setIfInBounds_toArray, List.set_cons_zero, List.set_cons_succ]
 refine wpAnyD_one (i := 27) (by kernel_rfl) rfl (fun K hK => ?_)
 go_simp
 refine hK.out _ _ (fun _ => ?_) (fun hHeld1 => ?_)
 ·exact hHeld
 replace hHeld := hHeld1 rfl
 clear hHeld1
 clear hK K
 try simp only [Act.put, List.setIfInBounds_toArray, List.set_cons_zero, List.set_cons_succ]
 refine wpAnyD_one (i := 28) (by kernel_rfl) rfl (fun K hK => ?_)
 go_simp
 refine hK.out _ _ (fun _ => ?_) (fun hHeld1 => ?_)
 ·exact hHeld
 replace hHeld := hHeld1 rfl
 clear hHeld1
 clear hK K
 try simp only [Act.put, List.setIfInBounds_toArray, List.set_cons_zero, List.set_cons_succ]
 have z4 := R2.out.free 4
 refine wpAnyD_one (i := 29) (by kernel_rfl) rfl (fun K hK => ?_)
 go_simp
 refine hK.out _ _ (fun hd => absurd hd (by decide)) (fun _ => ?_)
 clear hK K
 try simp only [Act.put, List.setIfInBounds_toArray, List.set_cons_zero, List.set_cons_succ]
 refine wpAnyD_done (by kernel_rfl) ?_ _
 have hno := rd_own_ne R2.out hown1
 have HO := Lib.hid hown1
 have HG := Lib.hid hgrow
 have HA := Lib.hid hat
 obtain ⟨q0, q1, q2, q3, q4⟩ := R2.out.cells
 have z1 := R2.out.free 1
 have hR2 := R2.out.lt
 clear hHeld hown1 hgrow hat c0 c1 c2 c3 c4
 go_wp2
 go_end0
 have hb1 : Below B w w1 := ⟨hb.os, hb.tape, hb.output, hb.size, fun k hk => hb.block k (Nat.lt_of_lt_of_le hk (Nat.le_trans hB (Nat.le_of_lt hR)))⟩
 have hb2 : Below B w w2 := (hb1.alloc (by omega) _).grown HG.out (by simp; omega) (fun k hk => (HOWN.out.lt k hk).1)
 refine ⟨rfl, .slice (some ⟨gg, 0, none⟩) (toks.length + 1) cap, ⟨?_, ?_, hB⟩, (hb2.setCell hB _).setCell hB _⟩
 ·have h1 := (R2.out.set4 (.slice (some ⟨gg, 0, none⟩) (toks.length + 1) cap)).set1 (i + n)
  simpa using h1
 ·have h1 := own_set (p := ⟨R, 1, none⟩) (own_set (p := ⟨R, 4, none⟩) HO.out hno (.slice (some ⟨gg, 0, none⟩) (toks.length + 1) cap)) hno (.int .i64 ((i : Int) + n))
  have e1 : (toks ++ [(⟨kind, s.extract i (i + n), v, line, (i : Int) - frm + 1⟩ : Tok)]).length = toks.length + 1 := by simp
  have e2 : tokCells (toks ++ [(⟨kind, s.extract i (i + n), v, line, (i : Int) - frm + 1⟩ : Tok)]) = tokCells toks ++ Tok.cells ⟨kind, s.extract i (i + n), v, line, (i : Int) - frm + 1⟩ := by simp [tokCells]
  rw [e1, e2]
  exact h1

theorem RdAt.set2 {w : World} {R : Nat} {s : ByteArray} {i line frm : Nat} {out : Value} (h : RdAt w R s i line frm out) (j : Nat) : RdAt (w.setCell ⟨R, 2, none⟩ (.int .i64 j)) R s i j frm out := by
 unfold RdAt at *
 simp [World.setCell, Array.getElem?_modify, h]
theorem RdAt.set3 {w : World} {R : Nat} {s : ByteArray} {i line frm : Nat} {out : Value} (h : RdAt w R s i line frm out) (j : Nat) : RdAt (w.setCell ⟨R, 3, none⟩ (.int .i64 j)) R s i line j out := by
 unfold RdAt at *
 simp [World.setCell, Array.getElem?_modify, h]
theorem StepP.ret {B R : Nat} {s : ByteArray} {i line frm : Nat} {toks : List Tok} {w w' : World} {st : Next} {e : Ending} (h : StepP B R s i line frm toks w st e w') (hc : st.code ≤ 3) : ∃ r, e = .returned (.int .i64 r) := by
 obtain ⟨_, h0, h1, h2, h3⟩ := h
 have : st.code = 0 ∨ st.code = 1 ∨ st.code = 2 ∨ st.code = 3 := by omega
 rcases this with hh | hh | hh | hh
 ·exact ⟨_, (h0 hh).1⟩
 ·exact ⟨_, (h1 hh).1⟩
 ·exact ⟨_, (h2 hh).1⟩
 ·exact ⟨_, (h3 hh).1⟩
theorem num_code (l : List UInt8) : (numNext l).code ≤ 3 := by unfold numNext; repeat' split <;> simp
theorem word_code (l : List UInt8) : (wordNext l).code ≤ 3 := by
 unfold wordNext
 split
 ·simp
 ·split
  ·simp
  ·split
   ·simp
   ·split <;> simp
theorem sign_code (l : List UInt8) : (signNext l).code ≤ 3 := by
 unfold signNext
 split
 ·simp
 ·split <;> simp
def posOf (R : Nat) (w : World) : Nat := match w.cell? ⟨R, 1, none⟩ with | some (.int _ n) => n.toNat | _ => 0
theorem StepP.drawn {B R : Nat} {s : ByteArray} {i line frm : Nat} {toks : List Tok} {w w1 w' : World} {st : Next} {e : Ending} (hD : Drawn w w1) (h : StepP B R s i line frm toks w1 st e w') : StepP B R s i line frm toks w st e w' :=
 ⟨(hD.below B).trans h.1, h.2⟩

theorem tail_len (s : ByteArray) (i n : Nat) (hn : n ≤ s.size) (h : ∀ j, i ≤ j → (hj : j < n) → (s[j]'(by omega)) ≠ 10) (hin : i ≤ n) (hend : n = s.size ∨ ∃ hj : n < s.size, s[n] = 10) :
    ((s.data.toList.drop i).takeWhile fun c => c != 10).length = n - i := by
 induction hk : n - i generalizing i with
 | zero =>
  have : i = n := by omega
  subst this
  rcases hend with rfl | ⟨hj, he⟩
  ·rw [drop_end s s.size (Nat.le_refl _)]; rfl
  ·rw [drop_cons s i hj, List.takeWhile_cons, if_neg (by rw [he]; decide)]; rfl
 | succ k ih =>
  have hlt : i < s.size := by omega
  rw [drop_cons s i hlt, List.takeWhile_cons, if_pos (by rw [bne_iff_ne]; exact h i (Nat.le_refl _) (by omega)), List.length_cons, ih (i + 1) (fun j h1 h2 => h j (by omega) h2) (by omega) (by omega)]

set_option maxHeartbeats 4000000 in
theorem one_any (PUT : PutSaid) (B R : Nat) (s : ByteArray) (i line frm : Nat) (toks : List Tok) (out : Value) (w : World) (h : Rd B w R s i line frm toks out) (m : Int)
    (hm : w.cell? ⟨1, 0, none⟩ = some (.int .i64 m))
    (hs : s.size ≤ 65536) (hi : i < s.size) (hf : frm ≤ i) (hl : line < 70000) (ht : toks.length ≤ i) :
    Calls Tryz.prog 63 #[.pointer (some ⟨R, 0, none⟩)] w (StepP B R s i line frm toks w (lexNext (s.data.toList.drop i))) := by
 have hat := Lib.hid h.at_
 have H := Lib.hid h
 have HM := Lib.hid hm
 have g1 : (0 : Int) ≤ (i : Int) := Int.natCast_nonneg _
 have g2 : (i : Int) < (s.size : Int) := by omega
 have hhead := Lib.hid (head_at s i hi)
 obtain ⟨c0, c1, c2, c3, c4⟩ := h.at_.cells
 have hR := h.at_.lt
 have z1 := h.at_.free 1
 have z2 := h.at_.free 2
 have z3 := h.at_.free 3
 clear h hm
 have hcase : s[i].toNat = 10 ∨ s[i].toNat = 32 ∨ s[i].toNat = 9 ∨ (s[i].toNat ≠ 10 ∧ s[i].toNat ≠ 32 ∧ s[i].toNat ≠ 9) := by omega
 rcases hcase with hc | hc | hc | ⟨hc1, hc2, hc3⟩
 ·have hnx : Hid (lexNext (s.data.toList.drop i) = ⟨1, 1, 0, 0⟩) := Lib.hid (by unfold lexNext; rw [hhead.out, if_pos hc])
  have t1 : ((s[i].toNat : Int) == 10) = true := by simp; omega
  clear hc
  go_enter Tryz.func63, Tryz.ntmps63
  go_wp2_with fail
  go_quiet (fail)
  go_wp2_with fail
  go_region
  all_goals go_wp2
  all_goals go_ret
  exact stepP_line hnx.out (((((Drawn.refl w).drewN _).below B |>.setCell H.out.le _).setCell H.out.le _).setCell H.out.le _).drew
   ⟨out, ((((((Drawn.refl w).drewN _).rdAt hat.out).set1 (i + 1)).set2 (line + 1)).set3 (i + 1)), own_set (own_set (own_set H.out.own (ne_of_tok H.out) _) (ne_of_tok H.out) _) (ne_of_tok H.out) _, H.out.le⟩
 ·have hnx : Hid (lexNext (s.data.toList.drop i) = ⟨0, 1, 0, 0⟩) := Lib.hid (by unfold lexNext; rw [hhead.out, if_neg (by omega), if_pos (Or.inl hc)])
  have t1 : ((s[i].toNat : Int) == 10) = false := by simp; omega
  have t2 : ((s[i].toNat : Int) == 32) = true := by simp; omega
  clear hc
  go_enter Tryz.func63, Tryz.ntmps63
  go_wp2_with fail
  go_quiet (fail)
  go_wp2
  go_ret
  exact stepP_skip hnx.out (((Drawn.refl w).drewN _).below B |>.setCell H.out.le _) ⟨out, ((((Drawn.refl w).drewN _).rdAt hat.out).set1 (i + 1)), own_set H.out.own (ne_of_tok H.out) _, H.out.le⟩
 ·have hnx : Hid (lexNext (s.data.toList.drop i) = ⟨0, 1, 0, 0⟩) := Lib.hid (by unfold lexNext; rw [hhead.out, if_neg (by omega), if_pos (Or.inr hc)])
  have t1 : ((s[i].toNat : Int) == 10) = false := by simp; omega
  have t2 : ((s[i].toNat : Int) == 32) = false := by simp; omega
  have t3 : ((s[i].toNat : Int) == 9) = true := by simp; omega
  have t4 : ¬ ((s[i].toNat : Int) = 32) := by omega
  clear hc
  go_enter Tryz.func63, Tryz.ntmps63
  go_wp2_with fail
  go_quiet (fail)
  go_wp2
  go_ret
  exact stepP_skip hnx.out (((Drawn.refl w).drewN _).below B |>.setCell H.out.le _) ⟨out, ((((Drawn.refl w).drewN _).rdAt hat.out).set1 (i + 1)), own_set H.out.own (ne_of_tok H.out) _, H.out.le⟩
 ·have t1 : ((s[i].toNat : Int) == 10) = false := by simp; omega
  have t2 : ((s[i].toNat : Int) == 32) = false := by simp; omega
  have t3 : ((s[i].toNat : Int) == 9) = false := by simp; omega
  have t4 : ¬ ((s[i].toNat : Int) = 32) := by omega
  have t5 : ¬ ((s[i].toNat : Int) = 9) := by omega
  have g3 : (i : Int) ≤ (s.size : Int) := by omega
  have hnx0 : Hid (lexNext (s.data.toList.drop i) = if Lib.hasPrefix (s.data.toList.drop i) [45, 45] = true then ⟨0, ((s.data.toList.drop i).takeWhile fun c => c != 10).length, 0, 0⟩
      else if isDigit (s[i].toNat) = true then numNext (s.data.toList.drop i) else if isLetter (s[i].toNat) = true then wordNext (s.data.toList.drop i) else signNext (s.data.toList.drop i)) := Lib.hid (by
   unfold lexNext; rw [hhead.out, if_neg hc1, if_neg (by omega)])
  clear hc1 hc2 hc3
  cases hp : Lib.hasPrefix (s.data.toList.drop i) [45, 45]
  ·have HP := Lib.hid hp
   clear hp
   have hc0 : Drawn w w := Drawn.refl w
   cases hdg : isDigit (s[i].toNat)
   ·have HDG := Lib.hid hdg
    clear hdg
    cases hlt : isLetter (s[i].toNat)
    ·have HLT := Lib.hid hlt
     clear hlt
     have hnx : Hid (lexNext (s.data.toList.drop i) = signNext (s.data.toList.drop i)) := Lib.hid (by
      rw [hnx0.out, if_neg (by rw [HP.out]; simp), if_neg (by rw [HDG.out]; simp), if_neg (by rw [HLT.out]; simp)])
     go_enter Tryz.func63, Tryz.ntmps63
     go_wp2_with fail
     go_quiet (fail)
     go_wp2_with fail
     go_quiet ((go_at_call 85; exact quiet_any (prefix_is s ⟨#[45, 45]⟩ i false HP.out _) (by first | rfl | rw [World.drewN_drewN])))
     go_wp2_with (first | (go_at_call 86; refine (digit_is _ _ HDG.out _).mono ?_; rintro e w' ⟨rfl, rfl⟩) | (go_at_call 88; refine (letter_is _ _ HLT.out _).mono ?_; rintro e w' ⟨rfl, rfl⟩))
     refine (sign_any PUT B R s i line frm toks out _ ((hc0.drewN _).rd H.out) hs hi hf (by omega) ht).mono ?_
     rintro e w1 hP
     obtain ⟨r, rfl⟩ := hP.ret (sign_code _)
     have HPP := Lib.hid hP
     clear hP
     go_wp2_with fail
     go_ret
     rw [hnx.out]
     exact HPP.out.drawn (hc0.drewN _)
    ·have HLT := Lib.hid hlt
     clear hlt
     have hnx : Hid (lexNext (s.data.toList.drop i) = wordNext (s.data.toList.drop i)) := Lib.hid (by
      rw [hnx0.out, if_neg (by rw [HP.out]; simp), if_neg (by rw [HDG.out]; simp), if_pos HLT.out])
     go_enter Tryz.func63, Tryz.ntmps63
     go_wp2_with fail
     go_quiet (fail)
     go_wp2_with fail
     go_quiet ((go_at_call 85; exact quiet_any (prefix_is s ⟨#[45, 45]⟩ i false HP.out _) (by first | rfl | rw [World.drewN_drewN])))
     go_wp2_with (first | (go_at_call 86; refine (digit_is _ _ HDG.out _).mono ?_; rintro e w' ⟨rfl, rfl⟩) | (go_at_call 88; refine (letter_is _ _ HLT.out _).mono ?_; rintro e w' ⟨rfl, rfl⟩))
     refine (word_any PUT B R s i line frm toks out _ ((hc0.drewN _).rd H.out) m (by exact HM.out) hs hi hf (by omega) ht HLT.out).mono ?_
     rintro e w1 hP
     obtain ⟨r, rfl⟩ := hP.ret (word_code _)
     have HPP := Lib.hid hP
     clear hP
     go_wp2_with fail
     go_ret
     rw [hnx.out]
     exact HPP.out.drawn (hc0.drewN _)
   ·have HDG := Lib.hid hdg
    clear hdg
    have hnx : Hid (lexNext (s.data.toList.drop i) = numNext (s.data.toList.drop i)) := Lib.hid (by
        rw [hnx0.out, if_neg (by rw [HP.out]; simp), if_pos HDG.out])
    go_enter Tryz.func63, Tryz.ntmps63
    go_wp2_with fail
    go_quiet (fail)
    go_wp2_with fail
    go_quiet ((go_at_call 85; exact quiet_any (prefix_is s ⟨#[45, 45]⟩ i false HP.out _) (by first | rfl | rw [World.drewN_drewN])))
    go_wp2_with (first | (go_at_call 86; refine (digit_is _ _ HDG.out _).mono ?_; rintro e w' ⟨rfl, rfl⟩))
    refine (number_any PUT B R s i line frm toks out _ ((hc0.drewN _).rd H.out) hs hi hf (by omega) ht).mono ?_
    rintro e w1 hP
    obtain ⟨r, rfl⟩ := hP.ret (num_code _)
    have HPP := Lib.hid hP
    clear hP
    go_wp2_with fail
    go_ret
    rw [hnx.out]
    exact HPP.out.drawn (hc0.drewN _)
  ·have HP := Lib.hid hp
   have hlen := Lib.hid (two_len s i _ hp (by decide))
   clear hp
   have hnx : Hid (lexNext (s.data.toList.drop i) = ⟨0, ((s.data.toList.drop i).takeWhile fun c => c != 10).length, 0, 0⟩) := Lib.hid (by rw [hnx0.out, if_pos HP.out])
   go_enter Tryz.func63, Tryz.ntmps63
   go_wp2_with fail
   go_quiet (fail)
   go_wp2_with fail
   go_quiet ((go_at_call 85; exact quiet_any (prefix_is s ⟨#[45, 45]⟩ i true HP.out _) (by first | rfl | rw [World.drewN_drewN])))
   go_wp2_with fail
   clear c0 c1 c2 c3 c4 z1 z2 z3
   go_loopw [65] (fun _ wr => Below B w wr ∧ ∃ j : Nat, i ≤ j ∧ j ≤ s.size ∧ Rd B wr R s j line frm toks out ∧ Hid (∀ k, i ≤ k → (hk : k < s.size) → k < j → s[k] ≠ 10)) (fun _ wr => s.size - posOf R wr)
   case atStart => exact ⟨(((Drawn.refl w).drewN _).drewN _).below B, i, Nat.le_refl _, by omega, (((Drawn.refl w).drewN _).drewN _).rd H.out, Lib.hid fun k h1 _ h2 => absurd h2 (by omega)⟩
   case round =>
    obtain ⟨hB, j, hij, hj, hrd, hno⟩ := hrel
    obtain ⟨d0, d1, _, _, _⟩ := hrd.at_.cells
    have y1 := hrd.at_.free 1
    have hpo : posOf R wr = j := by unfold posOf; rw [d1]; simp
    have HRD := Lib.hid hrd
    have HBW := Lib.hid hB
    have p1 : (0 : Int) ≤ (j : Int) := Int.natCast_nonneg _
    have p4 : IntKind.i64.wrap ((j : Int) + 1) = (j : Int) + 1 := IntWalk.i64_in _ (by omega)
    have hR2 := hrd.at_.lt
    clear hrd hB
    by_cases hlt : j < s.size
    ·have p2 : (j : Int) < (s.size : Int) := by omega
     have p3 : decide ((j : Int) < (s.size : Int)) = true := by simpa using p2
     by_cases h10 : s[j] = 10
     ·have t6 : ((s[j].toNat : Int) != 10) = false := by rw [h10]; decide
      have hnl : ((s.data.toList.drop i).takeWhile fun c => c != 10).length = j - i :=
       tail_len s i j hj (fun k h1 h2 => hno.out k h1 (by omega) h2) hij (Or.inr ⟨hlt, h10⟩)
      have HNL := Lib.hid hnl
      have H10 := Lib.hid h10
      clear hnl h10
      go_wp2_with fail
      go_quiet (fail)
      go_wp2_with fail
      go_ret
      rw [hnx.out, HNL.out]
      exact stepP_skip rfl (HBW.out.trans (((Drawn.refl wr).drewN _).below B)) ⟨out, by rw [show i + (j - i) = j from by omega]; exact ((Drawn.refl wr).drewN _).rd HRD.out⟩
     ·have t6 : ((s[j].toNat : Int) != 10) = true := by
        rw [bne_iff_ne]; intro h; apply h10
        have : s[j].toNat = (10 : UInt8).toNat := by have : (10 : UInt8).toNat = 10 := rfl; omega
        exact UInt8.toNat_inj.1 this
      have H10 := Lib.hid h10
      clear h10
      go_wp2_with fail
      go_quiet (fail)
      go_wp2
      have hrd2 : ∀ nq, Rd B ((wr.drewN nq).setCell ⟨R, 1, none⟩ (.int .i64 ((j : Int) + 1))) R s (j + 1) line frm toks out := fun nq =>
       ⟨(((Drawn.refl wr).drewN nq).rdAt HRD.out.at_).set1 (j + 1), own_set HRD.out.own (ne_of_tok HRD.out) _, HRD.out.le⟩
      have hpo2 : ∀ nq, posOf R ((wr.drewN nq).setCell ⟨R, 1, none⟩ (.int .i64 ((j : Int) + 1))) = j + 1 := fun nq => by
       unfold posOf; rw [((hrd2 nq).at_.cells).2.1]; simp
      refine ⟨⟨(HBW.out.trans (((Drawn.refl wr).drewN _).below B)).setCell HRD.out.le _, j + 1, by omega, by omega, hrd2 _, Lib.hid fun k h1 hk h2 => ?_⟩, by rw [hpo2, hpo]; omega⟩
      by_cases hkj : k = j
      ·subst hkj; exact H10.out
      ·exact hno.out k h1 hk (by omega)
    ·have p3 : decide ((j : Int) < (s.size : Int)) = false := by simp; omega
     have hnl : ((s.data.toList.drop i).takeWhile fun c => c != 10).length = j - i :=
      tail_len s i j hj (fun k h1 h2 => hno.out k h1 (by omega) h2) hij (Or.inl (by omega))
     have HNL := Lib.hid hnl
     clear hnl
     go_wp2_with fail
     go_quiet (fail)
     go_wp2_with fail
     go_ret
     rw [hnx.out, HNL.out]
     exact stepP_skip rfl (HBW.out.trans (((Drawn.refl wr).drewN _).below B)) ⟨out, by rw [show i + (j - i) = j from by omega]; exact ((Drawn.refl wr).drewN _).rd HRD.out⟩
end Go.Proofs.YtohgdopfjkjppaaGreatDoor
