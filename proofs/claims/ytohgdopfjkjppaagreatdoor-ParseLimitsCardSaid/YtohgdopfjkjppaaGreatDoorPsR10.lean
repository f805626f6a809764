/-
 The reference's reader: right sides.
-/
-- halved
import Derived.Test.YtohgdopfjkjppaaGreatDoorAbMac
import Derived.Test.YtohgdopfjkjppaaGreatDoorRD
set_option linter.unusedVariables false
set_option linter.unusedSimpArgs false
namespace Go.Proofs.YtohgdopfjkjppaaGreatDoor
open Nat renaming reduceEqDiff → jA, reduceAdd → jB, reduceMul → jC, reduceLT → jD, reduceLeDiff → jE, reduceBEq → jF, reduceBNe → jG
open Int renaming reduceLE → jH, reduceLT → jI, reduceToNat → jJ, reduceEq → jK
open Go
set_option maxRecDepth 20000

section
variable {L : List Tk} {a b : Nat} {m : M} {s : PS} {d : Int} {bs : List (Option (List PV))} {C : List PV}
theorem rs_nb : (qst L a ((m.upd b C).ext bs) s d).nb = m.nb + bs.length := by rw [qst_nb, ext_nb, upd_nb]
theorem rs_a (hA : a < m.nb) : (qst L a ((m.upd b C).ext bs) s d).get a = some [.sl .no (L.map Tk.pv), .v (.int .i64 (s.i : Int)), .v (.int .i64 d), .v (.int .i64 s.k), .v (.int .i64 s.l), .v (.int .i64 s.c)] := qst_a (by rw [ext_nb, upd_nb]; omega)
theorem rs_b (hA : a < m.nb) (hB : b < m.nb) (hne : b ≠ a) : (qst L a ((m.upd b C).ext bs) s d).get b = some C := by
 unfold qst
 rw [M.get_upd, if_neg (fun h => hne h.1)]
 have : (m.upd b C).get b = some C := by rw [M.get_upd, if_pos ⟨rfl, hB⟩]
 unfold M.get M.ext at *
 rw [List.getElem?_append_left (by have := upd_nb m b C; unfold M.nb at this hB; omega)]
 exact this
theorem rs_updb (hA : a < m.nb) (hB : b < m.nb) (hne : b ≠ a) {C2 : List PV} : (qst L a ((m.upd b C).ext bs) s d).upd b C2 = qst L a ((m.upd b C2).ext bs) s d := by
 have h2 : ((m.upd b C).ext bs).upd b C2 = (m.upd b C2).ext bs := by
  rw [ext_updOld (by rw [upd_nb]; exact hB)]
  unfold M.upd
  simp only [List.set_set]
 rw [← h2]
 unfold qst M.upd
 congr 1
 simp only []
 rw [List.set_comm _ _ (fun h => hne h.symm)]
theorem rs_ext (hA : a < m.nb) (cs : List (Option (List PV))) : (qst L a ((m.upd b C).ext bs) s d).ext cs = qst L a ((m.upd b C).ext (bs ++ cs)) s d := qst_ext2 bs cs (by rw [upd_nb]; exact hA)
theorem rs_own (hA : a < m.nb) {j : Nat} : (qst L a ((m.upd b C).ext bs) s d).get (m.nb + j) = (bs[j]?).join := qst_own (upd_nb m b C) (by rw [upd_nb]; exact hA)
theorem rs_own0 (hA : a < m.nb) : (qst L a ((m.upd b C).ext bs) s d).get m.nb = (bs[0]?).join := rs_own (j := 0) hA
theorem rs_ou (hA : a < m.nb) {j : Nat} {c : List PV} : (qst L a ((m.upd b C).ext bs) s d).upd (m.nb + j) c = qst L a ((m.upd b C).ext (bs.set j (some c))) s d := qst_ou (upd_nb m b C) (by rw [upd_nb]; exact hA)
theorem rs_ou0 (hA : a < m.nb) {c : List PV} : (qst L a ((m.upd b C).ext bs) s d).upd m.nb c = qst L a ((m.upd b C).ext (bs.set 0 (some c))) s d := rs_ou (j := 0) hA
theorem rs_0 (h : m.get b = some C) : m = (m.upd b C).ext [] := by
 unfold M.upd M.ext
 have : m.boxes.set b (some C) = m.boxes := by
  apply List.ext_getElem?
  intro i
  rw [List.getElem?_set]
  split
  ·rename_i hi
   subst hi
   split
   ·unfold M.get at h
    cases hq : m.boxes[b]? with
    | none => rw [hq] at h; cases h
    | some v => rw [hq] at h; cases v with
     | none => cases h
     | some c => cases h; rfl
   ·rename_i h2; rw [List.getElem?_eq_none (by omega)]
  ·rfl
 rw [this]
 simp
theorem leave_rs {s' : PS} {d' : Int} {C2 : List PV} {R : PV → M → Prop} {v : PV} (hA : a < m.nb) (hB : b < m.nb) (hp : ∀ n k, PV.withins n k C2 = true) (hv : v.settle.pure = true) (hR : R v.settle (qst L a (m.upd b C2) s' d')) : ∃ v' m', Leave (qst L a m s d) (qst L a ((m.upd b C2).ext bs) s' d') v v' m' ∧ R v' m' := by
 have e1 : qst L a ((m.upd b C2).ext bs) s' d' = (qst L a (m.upd b C2) s' d').ext bs := (qst_ext bs (by rw [upd_nb]; exact hA)).symm
 have hn : (qst L a (m.upd b C2) s' d').nb = m.nb := by rw [qst_nb, upd_nb]
 rw [e1]
 refine ⟨_, _, .gen v v.settle (qst L a (m.upd b C2) s' d') (.inr rfl) (by rw [hn, qst_nb]; exact Nat.le_refl _) (by rw [qst_nt, qst_nt]; exact Nat.le_refl _) ?_ ?_ (fun id c hc => ?_) (pure_withinC _ _ _ hv), hR⟩
 ·show ((qst L a (m.upd b C2) s' d').boxes ++ bs).take (qst L a (m.upd b C2) s' d').boxes.length = _
  simp
 ·show ((qst L a (m.upd b C2) s' d').toks).take (qst L a (m.upd b C2) s' d').toks.length = _
  simp
 ·unfold qst at hc
  rw [M.get_upd] at hc
  split at hc
  ·cases hc
   exact .inr (by simp [PV.withins, PV.within])
  ·rename_i h1
   rw [M.get_upd] at hc
   split at hc
   ·cases hc
    exact .inr (hp _ _)
   ·refine .inl ?_
    unfold qst
    rw [M.get_upd, if_neg (by rw [upd_nb] at h1; exact h1)]
    exact hc
end
theorem gT {g : Option Bool} {x y : Prop} (h : g = some true) : aGuard g x y = x := by subst h; simp [aGuard]
theorem gF {g : Option Bool} {x y : Prop} (h : g = some false) : aGuard g x y = y := by subst h; simp [aGuard]
theorem lexL2 {P : Program} {mu : List Nat} {ops : Array Oper} {S : M → Prop} {K : F → M → Prop} {o1 o2 : Oper} {rest : List Oper} {f : F} {m : M} (h1 : o1.guard = none) (e1 : isEff mu o1 = false) (h2 : o2.guard = none) (e2 : isEff mu o2 = true)
    (h : ∀ R : F → M → Prop, (∀ f m, aLexL P mu ops S K rest f m → R f m) → aQv P mu o1 f m S fun v => aOp P mu noZ o2 (F.put f o1.dst v) m fun v' m' => S m' ∧ R (F.put (F.put f o1.dst v) o2.dst v') m') : aLexL P mu ops S K (o1 :: o2 :: rest) f m := by
 have := h _ (fun _ _ h => h)
 simp only [aLexL, h1, e1, h2, e2]
 exact this
def isBX (b : Nat) (C : List PV) (m2 : M) : Prop := ∃ x : Subtype (fun m2 : M => m2.get b = some C), m2 = x.1
theorem isBX_all {b : Nat} {C : List PV} {Q : M → Prop} : (∀ m2, isBX b C m2 → Q m2) = ∀ x : Subtype (fun m2 : M => m2.get b = some C), Q x.1 :=
 propext ⟨fun h x => h _ ⟨x, rfl⟩, fun h m2 ⟨x, e⟩ => e ▸ h x⟩
theorem isBX_of {b : Nat} {C : List PV} {m : M} (h : m.get b = some C) : isBX b C m := ⟨⟨m, h⟩, rfl⟩
def GA (m : M) (l : List Ex) (va : PV) (bs : List (Option (List PV))) : Prop := (l = [] ∧ va = .sl .full [] ∧ bs = []) ∨ (0 < l.length ∧ ∃ (j cap : Nat) (c : List PV), va = .gs (m.nb + j) l.length cap ∧ bs[j]? = some (some c) ∧ l.length ≤ cap ∧ c.length = cap * 8 ∧ c.take (l.length * 8) = l.flatMap Ex.cs ∧ ∀ y ∈ c, y.isTp = false)
theorem cs_tp (e : Ex) : ∀ y ∈ e.cs, y.isTp = false := by
 intro y hy
 simp only [Ex.cs, List.mem_cons, List.not_mem_nil, or_false] at hy
 rcases hy with rfl | rfl | rfl | rfl | rfl | rfl | rfl | rfl <;> rfl
theorem z0_tp : ∀ y ∈ List.flatMap PV.cells [PV.ag z0.cs], y.isTp = false := fun y hy => cs_tp z0 y hy
theorem flat8 (l : List Ex) : (l.flatMap Ex.cs).length = l.length * 8 := by
 induction l with
 | nil => rfl
 | cons x r ih => rw [List.flatMap_cons, List.length_append, ih]; show 8 + _ = _; simp; omega
section
variable {L : List Tk} {a b : Nat} {m : M} {s : PS} {d : Int} {bs : List (Option (List PV))} {C : List PV} {l : List Ex} {v : PV} {m' : M}
def GP (m : M) (L : List Tk) (a b : Nat) (C : List PV) (s : PS) (d : Int) (l : List Ex) (v : PV) (m' : M) : Prop := ∃ (j cap : Nat) (c : List PV) (bs2 : List (Option (List PV))), v = .gs (m.nb + j) (l.length + 1) cap ∧ m' = qst L a ((m.upd b C).ext bs2) s d ∧ bs2[j]? = some (some c) ∧ l.length + 1 ≤ cap ∧ c.length = cap * 8 ∧ c.take (l.length * 8) = l.flatMap Ex.cs ∧ ∀ y ∈ c, y.isTp = false
theorem growN_ga (hA : a < m.nb) (h : growN (qst L a ((m.upd b C).ext []) s d) 8 1 (List.flatMap PV.cells [PV.ag z0.cs]) v m') : GP m L a b C s d [] v m' := by
 rcases h with ⟨h, _⟩ | ⟨_, cap, c, rfl, h1, h2, h3, h4, rfl⟩
 ·omega
 have hn : (qst L a ((m.upd b C).ext []) s d).nb = m.nb + 0 := rs_nb
 refine ⟨0, cap, c, [some c], by rw [hn]; rfl, rs_ext hA [some c], rfl, h1, h2, by simp, fun y hy => ?_⟩
 rw [← List.take_append_drop (1 * 8) c] at hy
 rcases List.mem_append.1 hy with hy | hy
 ·rw [h3] at hy
  exact z0_tp y hy
 ·rw [h4 y hy]; rfl
theorem growS_ga (hA : a < m.nb) {j cap : Nat} {c : List PV} (hj : bs[j]? = some (some c)) (hcap : l.length ≤ cap) (hcl : c.length = cap * 8) (ht : c.take (l.length * 8) = l.flatMap Ex.cs) (ho : ∀ y ∈ c, y.isTp = false) (h : growS (qst L a ((m.upd b C).ext bs) s d) (m.nb + j) l.length 8 1 c (List.flatMap PV.cells [PV.ag z0.cs]) v m') : GP m L a b C s d l v m' := by
 obtain ⟨id, cap2, c2, rfl, h1, h2, h3, h4, h5⟩ := h
 have hjl : j < bs.length := by
  by_cases hh : j < bs.length
  ·exact hh
  ·rw [List.getElem?_eq_none (by omega)] at hj; cases hj
 have hz : (List.flatMap PV.cells [PV.ag z0.cs]).length = 8 := rfl
 have h6 : c2.take (l.length * 8) = l.flatMap Ex.cs := by
  have e1 : c2.take (l.length * 8) = (c2.take ((l.length + 1) * 8)).take (l.length * 8) := by rw [List.take_take]; congr 1; omega
  rw [e1, h3, List.take_append_of_le_length (by rw [List.length_take]; omega), List.take_take, Nat.min_self, ht]
 have h7 : ∀ y ∈ c2, y.isTp = false := fun y hy => by
  rw [← List.take_append_drop ((l.length + 1) * 8) c2] at hy
  rcases List.mem_append.1 hy with hy | hy
  ·rw [h3] at hy
   rcases List.mem_append.1 hy with hy | hy
   ·exact ho y (List.mem_of_mem_take hy)
   ·exact z0_tp y hy
  ·rcases h4 y hy with rfl | h
   ·rfl
   ·exact ho y h
 rcases h5 with ⟨rfl, rfl⟩ | ⟨rfl, rfl⟩
 ·exact ⟨j, cap2, c2, bs.set j (some c2), rfl, rs_ou hA, by rw [List.getElem?_set_self hjl], h1, h2, h6, h7⟩
 ·refine ⟨bs.length, cap2, c2, bs ++ [some c2], by rw [rs_nb], rs_ext hA [some c2], by simp, h1, h2, h6, h7⟩
theorem ga_put {j cap : Nat} {c : List PV} {bs2 : List (Option (List PV))} (hj : bs2[j]? = some (some c)) (hcap : l.length + 1 ≤ cap) (hcl : c.length = cap * 8) (ht : c.take (l.length * 8) = l.flatMap Ex.cs) (ho : ∀ y ∈ c, y.isTp = false) (e : Ex) : GA m (l ++ [e]) (.gs (m.nb + j) (l.length + 1) cap) (bs2.set j (some (c.take (l.length * 8) ++ e.cs ++ c.drop (l.length * 8 + 8)))) := by
 have hjl : j < bs2.length := by
  by_cases hh : j < bs2.length
  ·exact hh
  ·rw [List.getElem?_eq_none (by omega)] at hj; cases hj
 have he : e.cs.length = 8 := rfl
 have hf := flat8 l
 refine .inr ⟨by simp, j, cap, _, by simp, List.getElem?_set_self hjl, by simpa using hcap, ?_, ?_, fun y hy => ?_⟩
 ·rw [List.length_append, List.length_append, List.length_take, List.length_drop, he]; omega
 ·rw [ht, List.flatMap_append, List.length_append]
  rw [List.take_append_of_le_length (by rw [List.length_append, hf, he]; simp; omega), List.take_of_length_le (by rw [List.length_append, hf, he]; simp; omega)]
  simp
 ·rcases List.mem_append.1 hy with hy | hy
  ·rcases List.mem_append.1 hy with hy | hy
   ·exact ho y (List.mem_of_mem_take hy)
   ·exact cs_tp e y hy
  ·exact ho y (List.mem_of_mem_drop hy)
theorem rs_get (hA : a < m.nb) (hB : b < m.nb) (hne : b ≠ a) (C : List PV) (bs : List (Option (List PV))) (k : Nat) : (qst L a ((m.upd b C).ext bs) s d).get k = if k = a then some [.sl .no (L.map Tk.pv), .v (.int .i64 (s.i : Int)), .v (.int .i64 d), .v (.int .i64 s.k), .v (.int .i64 s.l), .v (.int .i64 s.c)] else if k = b then some C else if k < m.nb then m.get k else (bs[k - m.nb]?).join := by
 split
 ·rename_i h; subst h; exact rs_a hA
 ·rename_i h1
  split
  ·rename_i h; subst h; exact rs_b hA hB hne
  ·rename_i h2
   split
   ·rename_i h3
    unfold qst
    rw [M.get_upd, if_neg (fun h => h1 h.1)]
    have hn := upd_nb m b C
    have : ((m.upd b C).ext bs).get k = (m.upd b C).get k := by
     unfold M.get M.ext
     simp only []
     rw [List.getElem?_append_left (by unfold M.nb at hn h3; omega)]
    rw [this, M.get_upd, if_neg (fun h => h2 h.1)]
   ·rename_i h3
    have hk : k = m.nb + (k - m.nb) := by omega
    rw [hk, rs_own hA]
    simp
theorem frz_r {j sz : Nat} {c xs : List PV} {f : F} (hA : a < m.nb) (hB : b < m.nb) (hne : b ≠ a) (hj : bs[j]? = some (some c)) (hc : ∃ r, c = xs.flatMap PV.cells ++ r ∧ ∀ y ∈ r, y.isTp = false) (hx : ∀ x ∈ xs, x.cells.length = sz ∧ x.ok = true) {C2 : List PV} (hC2 : C2 = C.map (PV.frz (m.nb + j) xs)) : GStep f (qst L a ((m.upd b C).ext bs) s d) f (qst L a ((m.upd b C2).ext (bs.set j none)) s d) := by
 refine .inr ⟨m.nb + j, xs, sz, c, by rw [rs_own hA, hj]; rfl, .inr (.inr hc), hx, fun _ => .inl rfl, rfl, ?_, fun k c' hk => ?_⟩
 ·show (qst L a ((m.upd b C2).ext (bs.set j none)) s d).nb = (qst L a ((m.upd b C).ext bs) s d).nb
  rw [rs_nb, rs_nb, List.length_set]
 ·rw [rs_get hA hB hne] at hk
  rw [rs_get hA hB hne]
  split at hk
  ·rename_i h; exact ⟨by omega, .inl (by rw [if_pos h]; exact hk)⟩
  ·rename_i h1
   rw [if_neg h1]
   split at hk
   ·rename_i h
    cases hk
    exact ⟨by omega, .inr ⟨C, by rw [if_pos h], hC2⟩⟩
   ·rename_i h2
    rw [if_neg h2]
    split at hk
    ·rename_i h; exact ⟨by omega, .inl (by rw [if_pos h]; exact hk)⟩
    ·rename_i h3
     rw [if_neg h3]
     by_cases hkj : k = m.nb + j
     ·subst hkj
      rw [show m.nb + j - m.nb = j by omega, List.getElem?_set] at hk
      rw [if_pos rfl] at hk
      split at hk <;> cases hk
     ·rw [List.getElem?_set_ne (by omega)] at hk
      exact ⟨hkj, .inl hk⟩
end
def rdy (ops : Array Oper) (todo : List Nat) : List Nat := todo.filter fun i => match ops[i]? with
 | some o => (edgesOf o).all fun k => !todo.contains k
 | none => true
theorem aAll_s {P : Program} {mu : List Nat} {ops : Array Oper} {K : F → M → Prop} {fuel : Nat} {todo r : List Nat} {f : F} {m : M} (hr : rdy ops todo = r)
    (h : ∀ i ∈ r, ∃ o t, ops[i]? = some o ∧ todo.filter (· != i) = t ∧ o.guard = none ∧ aOp P mu noZ o f m fun v m' => aAll P mu ops K fuel t (F.put f o.dst v) m') : aAll P mu ops K (fuel + 1) todo f m := by
 intro i hi
 by_cases hir : i ∈ r
 ·obtain ⟨o, t, h1, rfl, h3, h4⟩ := h i hir
  simp only [h1]
  exact .inr ⟨h3, h4⟩
 ·rw [← hr] at hir
  unfold rdy at hir
  rw [List.mem_filter] at hir
  cases ho : ops[i]? with
  | none => rw [ho] at hir; exact absurd ⟨hi, rfl⟩ hir
  | some o =>
   rw [ho] at hir
   refine .inl ?_
   have h5 : ¬ ((edgesOf o).all fun k => !todo.contains k) = true := fun h => hir ⟨hi, h⟩
   simp only [List.all_eq_true, Bool.not_eq_true', Classical.not_forall] at h5
   obtain ⟨k, hk, h6⟩ := h5
   exact ⟨k, hk, by simpa using h6⟩
theorem aDrwCR {P : Program} {mu : List Nat} {Z : PV → M → Prop} {K : Exit → F → M → Prop} {id : Nat} {l : List Oper} {f : F} {m : M} (c : Nat) (S : M → Prop) (hok : lexOkC mu l.toArray c = true) (hS : S m) (h : ∀ R : F → M → Prop, (∀ f m, aAll P mu l.toArray (K .normal) (l.length - c) (List.range' c (l.length - c)) f m → R f m) → aLexL P mu l.toArray S R (l.take c) f m) : aCode P mu Z (.region id l.toArray true) K f m :=
 aDrwC c S hok hS (h _ fun _ _ h => h)
set_option linter.defProp false
def tfPsR10 := And.intro @tfA (And.intro @Ex.settle_pv (And.intro @Ex.pure_pv (And.intro @Ex.cells_pv (And.intro @Ex.cs.eq_1 (And.intro @On.pv.eq_1 (And.intro @Ty.pv.eq_1 (And.intro @Va.settle_pv (And.intro @Va.pure_pv (And.intro @Va.cells_pv (And.intro @Va.cs.eq_1 (And.intro @Tk.settle_pv (And.intro @Tk.pure_pv (And.intro @Tk.cells_pv (And.intro @Tk.pv.eq_1 (And.intro @Tk.cs.eq_1 (And.intro @Tr.settle_pv (And.intro @Tr.pure_pv (And.intro @Tr.cells_pv (And.intro @Qu.settle_pv (And.intro @Qu.pure_pv (And.intro @Qu.cells_pv (And.intro @Am.settle_pv (And.intro @Am.pure_pv (And.intro @Am.cells_pv (And.intro @qst_nb (And.intro @qst_nt (And.intro @qst_fresh (And.intro @qst_use (And.intro @qst_free (And.intro @qst_alive (And.intro @qst_a (And.intro @qst_upda (And.intro @qst_ext (And.intro @qst_ext2 (And.intro @qst_ea (And.intro @qst_own (And.intro @qst_own0 (And.intro @qst_ou (And.intro @qst_ou0 (And.intro @rs_nb (And.intro @rs_a (And.intro @rs_b (And.intro @rs_updb (And.intro @rs_ext (And.intro @rs_own (And.intro @rs_own0 (And.intro @rs_ou @rs_ou0)))))))))))))))))))))))))))))))))))))))))))))))

set_option maxHeartbeats 16000000 in
theorem qright_any {L : List Tk} (hL : TksOk L) : RightC L := by
 intro a b m hA hB hne s hs d hd lhs t hC
 have hsk : ∀ (s : PS) w, s.skp L w = if s.is L w then s.nx else s := fun _ _ => rfl
 have hm0 := rs_0 hC
 have hst : qst L a m s d = qst L a ((m.upd b [.v (.int .u8 0), .sl .no (lhs.map pS), .v (.string ⟨#[]⟩), .sl .full [], .v (.bool false), .v (.int .u8 0), .v (.int .u8 0), .v (.int .i32 0), .v (.string ⟨#[]⟩), .sl .full [], .sl .full [], .v (.int .i64 0), .v (.int .i64 0), .sl .full [], .v (.int .i64 t.line), .v (.int .i64 t.col)]).ext []) s d := by rw [← hm0]
 refine eN [79] Tryz.func122 ?_
 conv => arg 7; rw [hst]
 cases h0 : (s.k == 0) with
 | false =>
  have hun : rRight L d lhs t s = (.mk 0 lhs ⟨#[]⟩ [] false z0 [] t.line t.col, s) := by unfold rRight; rw [h0]; rfl
  (repeat revert X); refine wE (And.intro tfPsR10 (And.intro hA h0)) ?_; repeat intro X hX
  refine wR Tryz.results122 ?_
  exact leave_rs (bs := []) hA hB (fun _ _ => rfl) rfl ⟨.full, .full, .full, by rw [hun]; rfl, by rw [hun]; rfl⟩
 | true =>
 have k0 : s.k = 0 := by simpa using h0
 have hlt := hs.lt
 have hg0 := tk_at hs
 have hi : IntKind.i64.wrap ((s.i : Int) + 1) = ((s.i + 1 : Nat) : Int) := by have := hL.le; rw [wrap64 (by omega)]; omega
 obtain ⟨c1, g1⟩ : ∃ b, ((s.tk L).kind == 2) = b := ⟨_, rfl⟩
 have hun : rRight L d lhs t s = (if s.call L then
     (if (rArgL L (L.length + 1) d [] ((rName L 2 s).2.want L wOpen)).2.is L wEvery then
      (.mk 2 lhs (rName L 2 s).1 (rArgL L (L.length + 1) d [] ((rName L 2 s).2.want L wOpen)).1 true (eX L d (rArgL L (L.length + 1) d [] ((rName L 2 s).2.want L wOpen)).2.nx).1 [] t.line t.col, (eX L d (rArgL L (L.length + 1) d [] ((rName L 2 s).2.want L wOpen)).2.nx).2)
     else (.mk 2 lhs (rName L 2 s).1 (rArgL L (L.length + 1) d [] ((rName L 2 s).2.want L wOpen)).1 false z0 [] t.line t.col, (rArgL L (L.length + 1) d [] ((rName L 2 s).2.want L wOpen)).2))
  else (.mk 1 lhs ⟨#[]⟩ [] false (eX L d (if lhs.length == 1 then s else s.here L 2)).1 [] t.line t.col, (eX L d (if lhs.length == 1 then s else s.here L 2)).2)) := by unfold rRight; rw [h0]; rfl
 (repeat revert X); refine wE (And.intro tfPsR10 (And.intro hA h0)) ?_; repeat intro X hX
 have notcall : ∀ g : F, g 0 = .bp a 0 → g 1 = .bp b 0 → g 42 = .v (.bool false) → s.call L = false → X g (qst L a ((m.upd b [.v (.int .u8 0), .sl .no (lhs.map pS), .v (.string ⟨#[]⟩), .sl .full [], .v (.bool false), .v (.int .u8 0), .v (.int .u8 0), .v (.int .i32 0), .v (.string ⟨#[]⟩), .sl .full [], .sl .full [], .v (.int .i64 0), .v (.int .i64 0), .sl .full [], .v (.int .i64 t.line), .v (.int .i64 t.col)]).ext []) s d) := by
  intro g f0 f1 f42 hcl
  rw [hcl] at hun
  simp only [Bool.false_eq_true, ↓reduceIte] at hun
  refine hX _ _ ?_
  clear hX X
  obtain ⟨c5, g5⟩ : ∃ b, (lhs.length == 1) = b := ⟨_, rfl⟩
  have g5i : ((lhs.length : Int) == 1) = c5 := by rw [← g5]; cases hq : (lhs.length == 1) <;> simp at hq ⊢ <;> omega
  have g5n : ((lhs.length : Int) != 1) = !c5 := by rw [← g5i]; rfl
  simp only [g5] at hun
  cases c5 with
  | true =>
   simp only [↓reduceIte] at hun
   (repeat revert X); refine wE (And.intro tfPsR10 (And.intro hA (And.intro hB (And.intro hne (And.intro f0 (And.intro f1 (And.intro f42 g5i))))))) ?_; repeat intro X hX
   refine callM (qeX_any hL a _ (by rw [ext_nb, upd_nb]; omega) _ hs d hd) ?_
   rintro v m' ⟨rfl, rfl⟩
   generalize eX L d s = e at *
   rw [show e.1.pv = .ag [.v (.int .u8 e.1.kind), .v (.int .u8 e.1.op), .v (.int .i32 e.1.n), .v (.string e.1.name), .sl .no (e.1.names.map pS), .sl .no (e.1.kids.map Ex.pv), .v (.int .i64 e.1.line), .v (.int .i64 e.1.col)] from Ex.pv_eq e.1]
   refine wS (And.intro tfPsR10 (And.intro hA (And.intro hB hne))) ?_
   (repeat revert X); refine wE (And.intro tfPsR10 (And.intro hA (And.intro hB (And.intro hne (And.intro f0 (And.intro f1 f42)))))) ?_; repeat intro X hX
   refine wR Tryz.results122 ?_
   exact leave_rs hA hB (fun _ _ => rfl) rfl ⟨.full, .no, .no, by rw [hun]; rfl, by rw [hun]; rfl⟩
  | false =>
   simp only [Bool.false_eq_true, ↓reduceIte] at hun
   have b1 := here_adv hL hs 2
   (repeat revert X); refine wE (And.intro tfPsR10 (And.intro hA (And.intro hB (And.intro hne (And.intro f0 (And.intro f1 (And.intro f42 g5i))))))) ?_; repeat intro X hX
   refine callM (qhere_any hL a _ (by rw [ext_nb, upd_nb]; omega) _ hs d 2) ?_
   rintro v m' rfl
   refine wS aEQ_t ?_
   (repeat revert X); refine wE (And.intro f0 f1) ?_; repeat intro X hX
   refine callM (qeX_any hL a _ (by rw [ext_nb, upd_nb]; omega) _ b1.ok d hd) ?_
   rintro v m' ⟨rfl, rfl⟩
   generalize eX L d (s.here L 2) = e at *
   rw [show e.1.pv = .ag [.v (.int .u8 e.1.kind), .v (.int .u8 e.1.op), .v (.int .i32 e.1.n), .v (.string e.1.name), .sl .no (e.1.names.map pS), .sl .no (e.1.kids.map Ex.pv), .v (.int .i64 e.1.line), .v (.int .i64 e.1.col)] from Ex.pv_eq e.1]
   refine wS (And.intro tfPsR10 (And.intro hA (And.intro hB hne))) ?_
   (repeat revert X); refine wE (And.intro tfPsR10 (And.intro hA (And.intro hB (And.intro hne (And.intro f0 (And.intro f1 f42)))))) ?_; repeat intro X hX
   refine wR Tryz.results122 ?_
   exact leave_rs hA hB (fun _ _ => rfl) rfl ⟨.full, .no, .no, by rw [hun]; rfl, by rw [hun]; rfl⟩
 have iscall : ∀ g : F, g 0 = .bp a 0 → g 1 = .bp b 0 → g 42 = .v (.bool true) → s.call L = true → X g (qst L a ((m.upd b [.v (.int .u8 0), .sl .no (lhs.map pS), .v (.string ⟨#[]⟩), .sl .full [], .v (.bool false), .v (.int .u8 0), .v (.int .u8 0), .v (.int .i32 0), .v (.string ⟨#[]⟩), .sl .full [], .sl .full [], .v (.int .i64 0), .v (.int .i64 0), .sl .full [], .v (.int .i64 t.line), .v (.int .i64 t.col)]).ext []) s d) := by
  intro g f0 f1 f42 hcl
  rw [hcl] at hun
  simp only [↓reduceIte] at hun
  clear notcall
  refine hX _ _ ?_
  clear hX X
  have b1 := name_adv hL hs (kd := 2) (by decide)
  have b2 := want_adv hL b1.ok wOpen
  (repeat revert X); refine wE (And.intro tfPsR10 (And.intro hA (And.intro hB (And.intro hne (And.intro f0 (And.intro f1 f42)))))) ?_; repeat intro X hX
  refine callM (qname_any hL a _ (by rw [ext_nb, upd_nb]; omega) _ hs d 2) ?_
  rintro v m' ⟨rfl, rfl⟩
  generalize rName L 2 s = nm at *
  refine wS (And.intro tfPsR10 (And.intro hA (And.intro hB hne))) ?_
  (repeat revert X); refine wE f0 ?_; repeat intro X hX
  refine callM (qwant_any hL a _ (by rw [ext_nb, upd_nb]; omega) _ b1.ok d wOpen) ?_
  rintro v m' rfl
  generalize nm.2.want L wOpen = s2 at *
  refine wS aEQ_t ?_
  (repeat revert X); refine wE aEQ_t ?_; repeat intro X hX
  obtain ⟨r, hr0⟩ : ∃ r, rArgL L (L.length + 1) d [] s2 = r := ⟨_, rfl⟩
  rw [hr0] at hun
  have hmx := mu_fx (L := L) (s := s2)
  have hll := hL.le
  have fin : ∀ (g : F) (l : List Ex) (s3 : PS) (va : PV) (bs : List (Option (List PV))), GA m l va bs → s3.ok L → r = (l, s3) → g 0 = .bp a 0 → g 1 = .bp b 0 → X g (qst L a ((m.upd b [.v (.int .u8 2), .sl .no (lhs.map pS), .v (.string nm.1), va, .v (.bool false), .v (.int .u8 0), .v (.int .u8 0), .v (.int .i32 0), .v (.string ⟨#[]⟩), .sl .full [], .sl .full [], .v (.int .i64 0), .v (.int .i64 0), .sl .full [], .v (.int .i64 t.line), .v (.int .i64 t.col)]).ext bs) s3 d) := by
   intro g l s3 va bs hga hs3 hr f0 f1
   rw [hr] at hun
   simp only [] at hun
   refine hX _ _ ?_
   clear hX X
   have hfz : ∃ oa bs', (oa = Own.full ∨ oa = Own.no) ∧ ∀ f : F, GStep f (qst L a ((m.upd b [.v (.int .u8 2), .sl .no (lhs.map pS), .v (.string nm.1), va, .v (.bool false), .v (.int .u8 0), .v (.int .u8 0), .v (.int .i32 0), .v (.string ⟨#[]⟩), .sl .full [], .sl .full [], .v (.int .i64 0), .v (.int .i64 0), .sl .full [], .v (.int .i64 t.line), .v (.int .i64 t.col)]).ext bs) s3 d) f (qst L a ((m.upd b [.v (.int .u8 2), .sl .no (lhs.map pS), .v (.string nm.1), .sl oa (l.map Ex.pv), .v (.bool false), .v (.int .u8 0), .v (.int .u8 0), .v (.int .i32 0), .v (.string ⟨#[]⟩), .sl .full [], .sl .full [], .v (.int .i64 0), .v (.int .i64 0), .sl .full [], .v (.int .i64 t.line), .v (.int .i64 t.col)]).ext bs') s3 d) := by
    rcases hga with ⟨rfl, rfl, rfl⟩ | ⟨hpos, j, cap, c, rfl, hbj, hcap, hcl2, htk, hone⟩
    ·exact ⟨.full, [], .inl rfl, fun f => .inl ⟨rfl, rfl⟩⟩
    ·refine ⟨.no, bs.set j none, .inr rfl, fun f => frz_r (xs := l.map Ex.pv) (sz := 8) hA hB hne hbj ⟨c.drop (l.length * 8), ?_, fun y hy => hone y (List.mem_of_mem_drop hy)⟩ (fun x hx => ?_) ?_⟩
     ·rw [← List.take_append_drop (l.length * 8) c]
      congr 1
      ·rw [htk, List.flatMap_map]
       congr 1
       funext e
       exact (Ex.cells_pv e).symm
      ·rw [List.take_append_drop]
     ·obtain ⟨e, _, rfl⟩ := List.mem_map.1 hx
      exact ⟨by rw [Ex.cells_pv]; rfl, Ex.ok_pv e⟩
     ·simp [PV.frz]
   obtain ⟨oa, bs', hoa, hfz⟩ := hfz
   (repeat refine aSeq fun X hX => ?_)
   refine aRegG (hfz _) ?_
   refine wS f0 ?_
   refine callM (qskip_any hL a _ (by rw [ext_nb, upd_nb]; omega) _ hs3 d wEvery) ?_
   rintro v m' ⟨rfl, rfl⟩
   rw [hsk]
   cases h5 : s3.is L wEvery with
   | true =>
    have b5 := is_adv hL hs3 h5
    simp only [h5, ↓reduceIte] at hun
    rw [if_pos rfl]
    refine wS @pB.eq_1 ?_
    (repeat revert X); refine wE (And.intro tfPsR10 (And.intro f0 (And.intro f1 (And.intro hA (And.intro hB hne))))) ?_; repeat intro X hX
    refine callM (qeX_any hL a _ (by rw [ext_nb, upd_nb]; omega) _ b5.ok d hd) ?_
    rintro v m' ⟨rfl, rfl⟩
    generalize eX L d s3.nx = e at *
    rw [show e.1.pv = .ag [.v (.int .u8 e.1.kind), .v (.int .u8 e.1.op), .v (.int .i32 e.1.n), .v (.string e.1.name), .sl .no (e.1.names.map pS), .sl .no (e.1.kids.map Ex.pv), .v (.int .i64 e.1.line), .v (.int .i64 e.1.col)] from Ex.pv_eq e.1]
    refine wS (And.intro tfPsR10 (And.intro hA (And.intro hB hne))) ?_
    (repeat revert X); refine wE aEQ_t ?_; repeat intro X hX
    refine wR Tryz.results122 ?_
    rcases hoa with rfl | rfl
    ·exact leave_rs hA hB (fun _ _ => rfl) rfl ⟨.full, .no, .no, by rw [hun]; rfl, by rw [hun]; rfl⟩
    ·exact leave_rs hA hB (fun _ _ => rfl) rfl ⟨.no, .no, .no, by rw [hun]; rfl, by rw [hun]; rfl⟩
   | false =>
    simp only [h5, Bool.false_eq_true, ↓reduceIte] at hun
    rw [if_neg (by simp)]
    refine wS @pB.eq_1 ?_
    (repeat revert X); refine wE aEQ_t ?_; repeat intro X hX
    refine wR Tryz.results122 ?_
    rcases hoa with rfl | rfl
    ·exact leave_rs hA hB (fun _ _ => rfl) rfl ⟨.full, .full, .full, by rw [hun]; rfl, by rw [hun]; rfl⟩
    ·exact leave_rs hA hB (fun _ _ => rfl) rfl ⟨.no, .full, .full, by rw [hun]; rfl, by rw [hun]; rfl⟩
  clear hX
  have hz : decide (((0 : Nat) : Int) > 0) = false := rfl
  obtain ⟨I, hI⟩ : ∃ I : Nat → F → M → Prop, ∀ n g m', I n g m' = (∃ (l : List Ex) (s3 : PS) (va : PV) (bs : List (Option (List PV))), s3.ok L ∧ mu L s3 + 16 ≤ 16 * n ∧ l.length + n ≤ L.length + 1 ∧ r = rArgL L n d l s3 ∧ g 0 = .bp a 0 ∧ g 1 = .bp b 0 ∧ m' = qst L a ((m.upd b [.v (.int .u8 2), .sl .no (lhs.map pS), .v (.string nm.1), va, .v (.bool false), .v (.int .u8 0), .v (.int .u8 0), .v (.int .i32 0), .v (.string ⟨#[]⟩), .sl .full [], .sl .full [], .v (.int .i64 0), .v (.int .i64 0), .sl .full [], .v (.int .i64 t.line), .v (.int .i64 t.col)]).ext bs) s3 d ∧ GA m l va bs) := ⟨_, fun _ _ _ => rfl⟩
  refine aLoopN I (L.length + 1) ?_ ?_
  ·rw [hI]; exact ⟨[], s2, .sl .full [], [], b2.ok, by omega, by simp, hr0.symm, f0, f1, rfl, .inl ⟨rfl, rfl, rfl⟩⟩
  clear f0 f1 f42 hr0
  intro W n g m' hrel hW
  rw [hI] at hrel
  obtain ⟨l, s3, va, bs, hs3, hn, hln, hr, f0, f1, rfl, hga⟩ := hrel
  obtain ⟨n, rfl⟩ : ∃ k, n = k + 1 := ⟨n - 1, by omega⟩
  have hun2 : rArgL L (n + 1) d l s3 = if s3.k == 0 && !s3.is L wShut then rArgL L n d (l ++ [(eX L d (if l.length == 0 then s3 else s3.want L wComma)).1]) (eX L d (if l.length == 0 then s3 else s3.want L wComma)).2 else (l, s3.skp L wShut) := rfl
  cases h1 : (s3.k == 0) with
  | false =>
   have hisn : s3.is L wShut = false := by unfold PS.is; rw [h1]; rfl
   rw [h1, Bool.false_and, if_neg (by simp), hsk, hisn, if_neg (by simp)] at hun2
   refine vE (And.intro tfPsR10 (And.intro f0 (And.intro hA h1))) ?_; repeat intro X hX
   exact fin _ l s3 va bs hga hs3 (by rw [hr, hun2]) f0 f1
  | true =>
  have k1 : s3.k = 0 := by simpa using h1
  rw [h1, Bool.true_and] at hun2
  refine vE (And.intro tfPsR10 (And.intro f0 (And.intro hA h1))) ?_; repeat intro X hX
  refine callM (qskip_any hL a _ (by rw [ext_nb, upd_nb]; omega) _ hs3 d wShut) ?_
  rintro v m' ⟨rfl, rfl⟩
  rw [hsk]
  cases h2 : s3.is L wShut with
  | true =>
   rw [h2, if_neg (by simp), hsk, h2, if_pos rfl] at hun2
   rw [if_pos rfl]
   have b3 := is_adv hL hs3 h2
   simp -implicitDefEqProofs only [↓slp, slb, ↓reduceIte, jA, jF, pB]
   (repeat (first | refine aExit ?_; try simp only [slx, ↓reduceIte, jA, reduceCtorEq] | refine aIf ?_; simp -implicitDefEqProofs only [slb, ↓reduceIte] | apply hX; clear hX X))
   exact fin _ l s3.nx va bs hga b3.ok (by rw [hr, hun2]) f0 f1
  | false =>
  rw [h2, if_pos (by rfl)] at hun2
  rw [if_neg (by simp)]
  have n0 := mu0 hs3 k1
  rcases hga with ⟨rfl, rfl, rfl⟩ | ⟨hpos, j, cap, c, rfl, hbj, hcap, hcl2, htk, hone⟩
  ·have b3 := eX_adv hL (d := d) hs3
   have n3 := mu_lt b3.1 hs3 k1 b3.2
   refine wS @pB.eq_1 ?_
   (repeat revert X); refine wE (And.intro tfPsR10 (And.intro f1 (And.intro hA (And.intro hB (And.intro hne hz))))) ?_; repeat intro X hX
   refine aDrwCR 9 (isBX b [.v (.int .u8 2), .sl .no (lhs.map pS), .v (.string nm.1), .sl .full [], .v (.bool false), .v (.int .u8 0), .v (.int .u8 0), .v (.int .i32 0), .v (.string ⟨#[]⟩), .sl .full [], .sl .full [], .v (.int .i64 0), .v (.int .i64 0), .sl .full [], .v (.int .i64 t.line), .v (.int .i64 t.col)]) (by kernel_rfl) (isBX_of (rs_b hA hB hne)) (fun R hR => ?_)
   have hS : ∀ x : Subtype (fun m2 : M => m2.get b = some [.v (.int .u8 2), .sl .no (lhs.map pS), .v (.string nm.1), .sl .full [], .v (.bool false), .v (.int .u8 0), .v (.int .u8 0), .v (.int .i32 0), .v (.string ⟨#[]⟩), .sl .full [], .sl .full [], .v (.int .i64 0), .v (.int .i64 0), .sl .full [], .v (.int .i64 t.line), .v (.int .i64 t.col)]), x.1.get b = some [.v (.int .u8 2), .sl .no (lhs.map pS), .v (.string nm.1), .sl .full [], .v (.bool false), .v (.int .u8 0), .v (.int .u8 0), .v (.int .i32 0), .v (.string ⟨#[]⟩), .sl .full [], .sl .full [], .v (.int .i64 0), .v (.int .i64 0), .sl .full [], .v (.int .i64 t.line), .v (.int .i64 t.col)] := fun x => x.2
   simp -implicitDefEqProofs only [↓slp, slb, ↓reduceIte, reduceCtorEq, jA, jB, jD, jF, tfPsR10, f0, f1, hA, hB, hne, isBX_all, hS]
   refine callM (qeX_any hL a _ (by rw [ext_nb, upd_nb]; omega) _ hs3 d hd) ?_
   rintro v m' ⟨rfl, rfl⟩
   simp only [List.length_nil, beq_self_eq_true, ↓reduceIte] at hun2
   generalize eX L d (s3) = e at *
   rw [show e.1.pv = .ag [.v (.int .u8 e.1.kind), .v (.int .u8 e.1.op), .v (.int .i32 e.1.n), .v (.string e.1.name), .sl .no (e.1.names.map pS), .sl .no (e.1.kids.map Ex.pv), .v (.int .i64 e.1.line), .v (.int .i64 e.1.col)] from Ex.pv_eq e.1]
   refine ⟨isBX_of (rs_b hA hB hne), ?_⟩
   refine wS tfPsR10 ?_
   refine ⟨by unfold maxLen; omega, ?_⟩
   intro w mw hgr
   obtain ⟨j2, cap2, c2, bs2, rfl, rfl, hj2, hcap2, hcl2', ht2, ho2⟩ := growN_ga hA hgr
   have hj2' : (bs2[j2]?).join = some c2 := by rw [hj2]; rfl
   refine ⟨isBX_of (rs_b hA hB hne), hR _ _ ?_⟩
   clear hgr hR R
   refine aAll_q 9 (t := [10, 11, 12, 13]) (by kernel_rfl) (by decide) rfl rfl ?_
   refine wG tfPsR10 ?_
   refine aAll_q 11 (t := [10, 12, 13]) (by kernel_rfl) (by decide) rfl rfl ?_
   refine wG aEQ_t ?_
   refine aAll_q 12 (t := [10, 13]) (by kernel_rfl) (by decide) rfl rfl ?_
   refine wG tfPsR10 ?_
   refine aAll_s (r := [10, 13]) (by kernel_rfl) ?_
   intro i hi
   simp only [List.mem_cons, List.not_mem_nil, or_false] at hi
   rcases hi with rfl | rfl
   ·refine ⟨_, [13], rfl, by decide, rfl, ?_⟩
    refine wG (And.intro tfPsR10 (And.intro hA hj2')) ?_
    refine ⟨(by simp only [List.length_nil] at hcap2; omega), ?_⟩
    refine aAll_s (r := [13]) (by kernel_rfl) ?_
    intro i hi
    simp only [List.mem_cons, List.not_mem_nil, or_false] at hi
    subst hi
    refine ⟨_, [], rfl, by decide, rfl, ?_⟩
    refine wG (And.intro tfPsR10 (And.intro hA (And.intro hB hne))) ?_
    unfold aAll
    try simp only [slx, ↓reduceIte]
    refine hW n _ _ (by omega) ?_
    rw [hI]
    exact ⟨[] ++ [e.1], e.2, _, _, b3.1.ok, by omega, by simp at hln ⊢; omega, by rw [hr, hun2], f0, f1, rfl, ga_put hj2 hcap2 hcl2' ht2 ho2 e.1⟩
   ·refine ⟨_, [10], rfl, by decide, rfl, ?_⟩
    refine wG (And.intro tfPsR10 (And.intro hA (And.intro hB hne))) ?_
    refine aAll_s (r := [10]) (by kernel_rfl) ?_
    intro i hi
    simp only [List.mem_cons, List.not_mem_nil, or_false] at hi
    subst hi
    refine ⟨_, [], rfl, by decide, rfl, ?_⟩
    refine wG (And.intro tfPsR10 (And.intro hA hj2')) ?_
    refine ⟨(by simp only [List.length_nil] at hcap2; omega), ?_⟩
    unfold aAll
    try simp only [slx, ↓reduceIte]
    refine hW n _ _ (by omega) ?_
    rw [hI]
    exact ⟨[] ++ [e.1], e.2, _, _, b3.1.ok, by omega, by simp at hln ⊢; omega, by rw [hr, hun2], f0, f1, rfl, ga_put hj2 hcap2 hcl2' ht2 ho2 e.1⟩
  ·have hbj' : (bs[j]?).join = some c := by rw [hbj]; rfl
   have hb0 : (l.length == 0) = false := by cases l with
    | nil => simp at hpos
    | cons x r => rfl
   have hg0 : decide ((l.length : Int) > 0) = true := by rw [len_posb, hb0]; rfl
   simp only [hb0, Bool.false_eq_true, ↓reduceIte] at hun2
   have b4 := want_adv hL hs3 wComma
   have n4 := want_mu hL hs3 wComma
   have b3 := eX_adv hL (d := d) b4.ok
   have n3 := mu_le b3.1
   refine wS @pB.eq_1 ?_
   (repeat (first | refine aSeq fun X hX => ?_ | refine aSkip ?_ | (first | apply aReg | apply aIf); simp -implicitDefEqProofs only [↓slp, slb, ↓reduceIte, reduceCtorEq, jA, jB, jD, jF, tfPsR10, f0, f1, hA, hB, hne, hg0, exists_eq'] | apply hX; clear hX X))
   refine callM (qwant_any hL a _ (by rw [ext_nb, upd_nb]; omega) _ hs3 d wComma) ?_
   rintro v m' rfl
   refine wS aEQ_t ?_
   (repeat (apply hX; clear hX X))
   refine aDrwCR 9 (isBX b [.v (.int .u8 2), .sl .no (lhs.map pS), .v (.string nm.1), .gs (m.nb + j) l.length cap, .v (.bool false), .v (.int .u8 0), .v (.int .u8 0), .v (.int .i32 0), .v (.string ⟨#[]⟩), .sl .full [], .sl .full [], .v (.int .i64 0), .v (.int .i64 0), .sl .full [], .v (.int .i64 t.line), .v (.int .i64 t.col)]) (by kernel_rfl) (isBX_of (rs_b hA hB hne)) (fun R hR => ?_)
   have hS : ∀ x : Subtype (fun m2 : M => m2.get b = some [.v (.int .u8 2), .sl .no (lhs.map pS), .v (.string nm.1), .gs (m.nb + j) l.length cap, .v (.bool false), .v (.int .u8 0), .v (.int .u8 0), .v (.int .i32 0), .v (.string ⟨#[]⟩), .sl .full [], .sl .full [], .v (.int .i64 0), .v (.int .i64 0), .sl .full [], .v (.int .i64 t.line), .v (.int .i64 t.col)]), x.1.get b = some [.v (.int .u8 2), .sl .no (lhs.map pS), .v (.string nm.1), .gs (m.nb + j) l.length cap, .v (.bool false), .v (.int .u8 0), .v (.int .u8 0), .v (.int .i32 0), .v (.string ⟨#[]⟩), .sl .full [], .sl .full [], .v (.int .i64 0), .v (.int .i64 0), .sl .full [], .v (.int .i64 t.line), .v (.int .i64 t.col)] := fun x => x.2
   simp -implicitDefEqProofs only [↓slp, slb, ↓reduceIte, reduceCtorEq, jA, jB, jD, jF, tfPsR10, f0, f1, hA, hB, hne, isBX_all, hS]
   refine callM (qeX_any hL a _ (by rw [ext_nb, upd_nb]; omega) _ b4.ok d hd) ?_
   rintro v m' ⟨rfl, rfl⟩
   generalize eX L d (s3.want L wComma) = e at *
   rw [show e.1.pv = .ag [.v (.int .u8 e.1.kind), .v (.int .u8 e.1.op), .v (.int .i32 e.1.n), .v (.string e.1.name), .sl .no (e.1.names.map pS), .sl .no (e.1.kids.map Ex.pv), .v (.int .i64 e.1.line), .v (.int .i64 e.1.col)] from Ex.pv_eq e.1]
   refine ⟨isBX_of (rs_b hA hB hne), ?_⟩
   simp -implicitDefEqProofs only [↓slp, slb, ↓reduceIte, jA, jB, jC, jE, jF, tfPsR10, hA, exists_eq', hbj']; try simp only [fo]
   refine ⟨⟨⟨hcl2, hcap⟩, by unfold maxLen; omega, by omega⟩, ?_⟩
   intro w mw hgr
   obtain ⟨j2, cap2, c2, bs2, rfl, rfl, hj2, hcap2, hcl2', ht2, ho2⟩ := growS_ga hA hbj hcap hcl2 htk hone hgr
   have hj2' : (bs2[j2]?).join = some c2 := by rw [hj2]; rfl
   refine ⟨isBX_of (rs_b hA hB hne), hR _ _ ?_⟩
   clear hgr hR R
   refine aAll_q 9 (t := [10, 11, 12, 13]) (by kernel_rfl) (by decide) rfl rfl ?_
   refine wG tfPsR10 ?_
   refine aAll_q 11 (t := [10, 12, 13]) (by kernel_rfl) (by decide) rfl rfl ?_
   refine wG aEQ_t ?_
   refine aAll_q 12 (t := [10, 13]) (by kernel_rfl) (by decide) rfl rfl ?_
   refine wG tfPsR10 ?_
   refine aAll_s (r := [10, 13]) (by kernel_rfl) ?_
   intro i hi
   simp only [List.mem_cons, List.not_mem_nil, or_false] at hi
   rcases hi with rfl | rfl
   ·refine ⟨_, [13], rfl, by decide, rfl, ?_⟩
    refine wG (And.intro tfPsR10 (And.intro hA hj2')) ?_
    refine ⟨(by omega), ?_⟩
    refine aAll_s (r := [13]) (by kernel_rfl) ?_
    intro i hi
    simp only [List.mem_cons, List.not_mem_nil, or_false] at hi
    subst hi
    refine ⟨_, [], rfl, by decide, rfl, ?_⟩
    refine wG (And.intro tfPsR10 (And.intro hA (And.intro hB hne))) ?_
    unfold aAll
    try simp only [slx, ↓reduceIte]
    refine hW n _ _ (by omega) ?_
    rw [hI]
    exact ⟨l ++ [e.1], e.2, _, _, b3.1.ok, by omega, by simp; omega, by rw [hr, hun2], f0, f1, rfl, ga_put hj2 hcap2 hcl2' ht2 ho2 e.1⟩
   ·refine ⟨_, [10], rfl, by decide, rfl, ?_⟩
    refine wG (And.intro tfPsR10 (And.intro hA (And.intro hB hne))) ?_
    refine aAll_s (r := [10]) (by kernel_rfl) ?_
    intro i hi
    simp only [List.mem_cons, List.not_mem_nil, or_false] at hi
    subst hi
    refine ⟨_, [], rfl, by decide, rfl, ?_⟩
    refine wG (And.intro tfPsR10 (And.intro hA hj2')) ?_
    refine ⟨(by omega), ?_⟩
    unfold aAll
    try simp only [slx, ↓reduceIte]
    refine hW n _ _ (by omega) ?_
    rw [hI]
    exact ⟨l ++ [e.1], e.2, _, _, b3.1.ok, by omega, by simp; omega, by rw [hr, hun2], f0, f1, rfl, ga_put hj2 hcap2 hcl2' ht2 ho2 e.1⟩
 refine aDrE ?_
 refine lexL2 rfl (by kernel_rfl) rfl (by kernel_rfl) (fun R hR => ?_)
 refine wS aEQ_t ?_
 refine callM (qtok_any hL a _ (by rw [ext_nb, upd_nb]; omega) s hs d) ?_
 rintro v m' ⟨rfl, rfl⟩
 refine ⟨rfl, hR _ _ ?_⟩
 clear hR R
 cases c1 with
 | false =>
  simp -implicitDefEqProofs only [↓slp, slb, ↓reduceIte, jA, jB, jF, tfPsR10, ↓gF, g1]
  exact notcall _ rfl rfl rfl (by unfold PS.call; rw [g1]; rfl)
 | true =>
  have hkd : (s.tk L).kind ≠ 0 := by have : (s.tk L).kind = 2 := by simpa using g1
                                     omega
  have hnx := nx_adv hL hs k0 hkd
  have hg1 : (L.map Tk.pv).getD (s.i + 1) PV.junk = _ := tk_at hnx.ok
  have hlt1 : s.i + 1 < L.length := hnx.ok.lt
  have hb1 : (0 : Int) ≤ ((s.i + 1 : Nat) : Int) := by omega
  have hb2 : ((s.i + 1 : Nat) : Int) < (L.length : Int) := by omega
  have hcl : s.call L = ((s.tk L).kind == 2 && (s.nx.tk L).kind == 5 && eqS (s.nx.tk L).text wOpen) := rfl
  generalize s.nx.tk L = t1 at *
  obtain ⟨c2, g2⟩ : ∃ b, (t1.kind == 5) = b := ⟨_, rfl⟩
  obtain ⟨c3, g3⟩ : ∃ b, (t1.text.toList == wOpen.toList) = b := ⟨_, rfl⟩
  have g3w : (t1.text.toList == (⟨#[40]⟩ : ByteArray).toList) = c3 := g3
  rw [g1, g2, show eqS t1.text wOpen = c3 from g3] at hcl
  cases c2 with
  | false =>
   simp -implicitDefEqProofs only [↓slp, slb, ↓reduceIte, reduceCtorEq, jA, jB, jD, jE, jF, tfPsR10, hA, ↓gT, ↓gF, g1, hi, hg1, hlt1, hb1, g2]
   exact notcall _ rfl rfl rfl (by rw [hcl]; rfl)
  | true =>
   simp -implicitDefEqProofs only [↓slp, slb, ↓reduceIte, reduceCtorEq, jA, jB, jD, jE, jF, tfPsR10, hA, ↓gT, g1, hi, hg1, hlt1, hb1, g2, g3w]
   cases c3 with
   | false => exact notcall _ rfl rfl rfl (by rw [hcl]; rfl)
   | true => exact iscall _ rfl rfl rfl (by rw [hcl]; rfl)
end Go.Proofs.YtohgdopfjkjppaaGreatDoor
