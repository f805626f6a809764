/-
 parse's reader: right sides.
-/
-- halved
import Derived.Test.YtohgdopfjkjppaaGreatDoorAbMac
import Derived.Test.YtohgdopfjkjppaaGreatDoorPC
import Derived.Test.YtohgdopfjkjppaaGreatDoorPsR10
import Derived.Test.YtohgdopfjkjppaaGreatDoorPB
set_option linter.unusedVariables false
set_option linter.unusedSimpArgs false
namespace Go.Proofs.YtohgdopfjkjppaaGreatDoor
open Nat renaming reduceEqDiff → jA, reduceAdd → jB, reduceMul → jC, reduceLT → jD, reduceLeDiff → jE, reduceBEq → jF, reduceBNe → jG
open Int renaming reduceLE → jH, reduceLT → jI, reduceToNat → jJ, reduceEq → jK
open Go
set_option maxRecDepth 20000

section
variable {L : List Tk} {a b : Nat} {m : M} {i : Nat} {d : Int} {bs : List (Option (List PV))} {C : List PV}
theorem rp_nb : (pst L a ((m.upd b C).ext bs) i d).nb = m.nb + bs.length := by rw [pst_nb, ext_nb, upd_nb]
theorem rp_a (hA : a < m.nb) : (pst L a ((m.upd b C).ext bs) i d).get a = some [.sl .no (L.map Tk.pv), .v (.int .i64 (i : Int)), .v (.int .i64 d)] := pst_a (by rw [ext_nb, upd_nb]; omega)
theorem rp_b (hA : a < m.nb) (hB : b < m.nb) (hne : b ≠ a) : (pst L a ((m.upd b C).ext bs) i d).get b = some C := by
 unfold pst
 rw [M.get_upd, if_neg (fun h => hne h.1)]
 have : (m.upd b C).get b = some C := by rw [M.get_upd, if_pos ⟨rfl, hB⟩]
 unfold M.get M.ext at *
 rw [List.getElem?_append_left (by have := upd_nb m b C; unfold M.nb at this hB; omega)]
 exact this
theorem rp_updb (hA : a < m.nb) (hB : b < m.nb) (hne : b ≠ a) {C2 : List PV} : (pst L a ((m.upd b C).ext bs) i d).upd b C2 = pst L a ((m.upd b C2).ext bs) i d := by
 have h2 : ((m.upd b C).ext bs).upd b C2 = (m.upd b C2).ext bs := by
  rw [ext_updOld (by rw [upd_nb]; exact hB)]
  unfold M.upd
  simp only [List.set_set]
 rw [← h2]
 unfold pst M.upd
 congr 1
 simp only []
 rw [List.set_comm _ _ (fun h => hne h.symm)]
theorem rp_ext (hA : a < m.nb) (cs : List (Option (List PV))) : (pst L a ((m.upd b C).ext bs) i d).ext cs = pst L a ((m.upd b C).ext (bs ++ cs)) i d := pst_ext2 bs cs (by rw [upd_nb]; exact hA)
theorem rp_own (hA : a < m.nb) {j : Nat} : (pst L a ((m.upd b C).ext bs) i d).get (m.nb + j) = (bs[j]?).join := pst_own (upd_nb m b C) (by rw [upd_nb]; exact hA)
theorem rp_own0 (hA : a < m.nb) : (pst L a ((m.upd b C).ext bs) i d).get m.nb = (bs[0]?).join := rp_own (j := 0) hA
theorem rp_ou (hA : a < m.nb) {j : Nat} {c : List PV} : (pst L a ((m.upd b C).ext bs) i d).upd (m.nb + j) c = pst L a ((m.upd b C).ext (bs.set j (some c))) i d := pst_ou (upd_nb m b C) (by rw [upd_nb]; exact hA)
theorem rp_ou0 (hA : a < m.nb) {c : List PV} : (pst L a ((m.upd b C).ext bs) i d).upd m.nb c = pst L a ((m.upd b C).ext (bs.set 0 (some c))) i d := rp_ou (j := 0) hA
theorem leave_rp {i' : Nat} {d' : Int} {C2 : List PV} {R : PV → M → Prop} {v : PV} (hA : a < m.nb) (hB : b < m.nb) (hp : ∀ n k, PV.withins n k C2 = true) (hv : v.settle.pure = true) (hR : R v.settle (pst L a (m.upd b C2) i' d')) : ∃ v' m', Leave (pst L a m i d) (pst L a ((m.upd b C2).ext bs) i' d') v v' m' ∧ R v' m' := by
 have e1 : pst L a ((m.upd b C2).ext bs) i' d' = (pst L a (m.upd b C2) i' d').ext bs := (pst_ext bs (by rw [upd_nb]; exact hA)).symm
 have hn : (pst L a (m.upd b C2) i' d').nb = m.nb := by rw [pst_nb, upd_nb]
 rw [e1]
 refine ⟨_, _, .gen v v.settle (pst L a (m.upd b C2) i' d') (.inr rfl) (by rw [hn, pst_nb]; exact Nat.le_refl _) (by rw [pst_nt, pst_nt]; exact Nat.le_refl _) ?_ ?_ (fun id c hc => ?_) (pure_withinC _ _ _ hv), hR⟩
 ·show ((pst L a (m.upd b C2) i' d').boxes ++ bs).take (pst L a (m.upd b C2) i' d').boxes.length = _
  simp
 ·show ((pst L a (m.upd b C2) i' d').toks).take (pst L a (m.upd b C2) i' d').toks.length = _
  simp
 ·unfold pst at hc
  rw [M.get_upd] at hc
  split at hc
  ·cases hc
   exact .inr (by simp [PV.withins, PV.within])
  ·rename_i h1
   rw [M.get_upd] at hc
   split at hc
   ·cases hc
    exact .inr (hp _ _)
   ·refine .inl ?_
    unfold pst
    rw [M.get_upd, if_neg (by rw [upd_nb] at h1; exact h1)]
    exact hc
end
section
variable {L : List Tk} {a b : Nat} {m : M} {i : Nat} {d : Int} {bs : List (Option (List PV))} {C : List PV} {l : List Ex} {v : PV} {m' : M}
def GPp (m : M) (L : List Tk) (a b : Nat) (C : List PV) (i : Nat) (d : Int) (l : List Ex) (v : PV) (m' : M) : Prop := ∃ (j cap : Nat) (c : List PV) (bs2 : List (Option (List PV))), v = .gs (m.nb + j) (l.length + 1) cap ∧ m' = pst L a ((m.upd b C).ext bs2) i d ∧ bs2[j]? = some (some c) ∧ l.length + 1 ≤ cap ∧ c.length = cap * 8 ∧ c.take (l.length * 8) = l.flatMap Ex.cs ∧ ∀ y ∈ c, y.isTp = false
theorem growN_gp (hA : a < m.nb) (h : growN (pst L a ((m.upd b C).ext []) i d) 8 1 (List.flatMap PV.cells [PV.ag z0.cs]) v m') : GPp m L a b C i d [] v m' := by
 rcases h with ⟨h, _⟩ | ⟨_, cap, c, rfl, h1, h2, h3, h4, rfl⟩
 ·omega
 have hn : (pst L a ((m.upd b C).ext []) i d).nb = m.nb + 0 := rp_nb
 refine ⟨0, cap, c, [some c], by rw [hn]; rfl, rp_ext hA [some c], rfl, h1, h2, by simp, fun y hy => ?_⟩
 rw [← List.take_append_drop (1 * 8) c] at hy
 rcases List.mem_append.1 hy with hy | hy
 ·rw [h3] at hy
  exact z0_tp y hy
 ·rw [h4 y hy]; rfl
theorem growS_gp (hA : a < m.nb) {j cap : Nat} {c : List PV} (hj : bs[j]? = some (some c)) (hcap : l.length ≤ cap) (hcl : c.length = cap * 8) (ht : c.take (l.length * 8) = l.flatMap Ex.cs) (ho : ∀ y ∈ c, y.isTp = false) (h : growS (pst L a ((m.upd b C).ext bs) i d) (m.nb + j) l.length 8 1 c (List.flatMap PV.cells [PV.ag z0.cs]) v m') : GPp m L a b C i d l v m' := by
 obtain ⟨id, cap2, c2, rfl, h1, h2, h3, h4, h5⟩ := h
 have hjl : j < bs.length := by
  by_cases hh : j < bs.length
  ·exact hh
  ·rw [List.getElem?_eq_none (by omega)] at hj; cases hj
 have hz : (List.flatMap PV.cells [PV.ag z0.cs]).length = 8 := rfl
 have h6 : c2.take (l.length * 8) = l.flatMap Ex.cs := by
  have e1 : c2.take (l.length * 8) = (c2.take ((l.length + 1) * 8)).take (l.length * 8) := by rw [List.take_take]; congr 1; omega
  rw [e1, h3, List.take_append_of_le_length (by rw [List.length_take]; omega), List.take_take, Nat.min_self, ht]
 have h7 : ∀ y ∈ c2, y.isTp = false := fun y hy => by
  rw [← List.take_append_drop ((l.length + 1) * 8) c2] at hy
  rcases List.mem_append.1 hy with hy | hy
  ·rw [h3] at hy
   rcases List.mem_append.1 hy with hy | hy
   ·exact ho y (List.mem_of_mem_take hy)
   ·exact z0_tp y hy
  ·rcases h4 y hy with rfl | h
   ·rfl
   ·exact ho y h
 rcases h5 with ⟨rfl, rfl⟩ | ⟨rfl, rfl⟩
 ·exact ⟨j, cap2, c2, bs.set j (some c2), rfl, rp_ou hA, by rw [List.getElem?_set_self hjl], h1, h2, h6, h7⟩
 ·refine ⟨bs.length, cap2, c2, bs ++ [some c2], by rw [rp_nb], rp_ext hA [some c2], by simp, h1, h2, h6, h7⟩
theorem rp_get (hA : a < m.nb) (hB : b < m.nb) (hne : b ≠ a) (C : List PV) (bs : List (Option (List PV))) (k : Nat) : (pst L a ((m.upd b C).ext bs) i d).get k = if k = a then some [.sl .no (L.map Tk.pv), .v (.int .i64 (i : Int)), .v (.int .i64 d)] else if k = b then some C else if k < m.nb then m.get k else (bs[k - m.nb]?).join := by
 split
 ·rename_i h; subst h; exact rp_a hA
 ·rename_i h1
  split
  ·rename_i h; subst h; exact rp_b hA hB hne
  ·rename_i h2
   split
   ·rename_i h3
    unfold pst
    rw [M.get_upd, if_neg (fun h => h1 h.1)]
    have hn := upd_nb m b C
    have : ((m.upd b C).ext bs).get k = (m.upd b C).get k := by
     unfold M.get M.ext
     simp only []
     rw [List.getElem?_append_left (by unfold M.nb at hn h3; omega)]
    rw [this, M.get_upd, if_neg (fun h => h2 h.1)]
   ·rename_i h3
    have hk : k = m.nb + (k - m.nb) := by omega
    rw [hk, rp_own hA]
    simp
theorem frz_rp {j sz : Nat} {c xs : List PV} {f : F} (hA : a < m.nb) (hB : b < m.nb) (hne : b ≠ a) (hj : bs[j]? = some (some c)) (hc : ∃ r, c = xs.flatMap PV.cells ++ r ∧ ∀ y ∈ r, y.isTp = false) (hx : ∀ x ∈ xs, x.cells.length = sz ∧ x.ok = true) {C2 : List PV} (hC2 : C2 = C.map (PV.frz (m.nb + j) xs)) : GStep f (pst L a ((m.upd b C).ext bs) i d) f (pst L a ((m.upd b C2).ext (bs.set j none)) i d) := by
 refine .inr ⟨m.nb + j, xs, sz, c, by rw [rp_own hA, hj]; rfl, .inr (.inr hc), hx, fun _ => .inl rfl, rfl, ?_, fun k c' hk => ?_⟩
 ·show (pst L a ((m.upd b C2).ext (bs.set j none)) i d).nb = (pst L a ((m.upd b C).ext bs) i d).nb
  rw [rp_nb, rp_nb, List.length_set]
 ·rw [rp_get hA hB hne] at hk
  rw [rp_get hA hB hne]
  split at hk
  ·rename_i h; exact ⟨by omega, .inl (by rw [if_pos h]; exact hk)⟩
  ·rename_i h1
   rw [if_neg h1]
   split at hk
   ·rename_i h
    cases hk
    exact ⟨by omega, .inr ⟨C, by rw [if_pos h], hC2⟩⟩
   ·rename_i h2
    rw [if_neg h2]
    split at hk
    ·rename_i h; exact ⟨by omega, .inl (by rw [if_pos h]; exact hk)⟩
    ·rename_i h3
     rw [if_neg h3]
     by_cases hkj : k = m.nb + j
     ·subst hkj
      rw [show m.nb + j - m.nb = j by omega, List.getElem?_set] at hk
      rw [if_pos rfl] at hk
      split at hk <;> cases hk
     ·rw [List.getElem?_set_ne (by omega)] at hk
      exact ⟨hkj, .inl hk⟩
end

def ZR (L : List Tk) (a b : Nat) (m : M) (r : PS) (v : PV) (m' : M) : Prop := r.k ≠ 0 ∧ v = pStop r.l r.c r.k ∧ ∃ C bs i d, m' = pst L a ((m.upd b C).ext bs) i d
theorem zr {L : List Tk} {a b : Nat} {m : M} {C : List PV} {bs : List (Option (List PV))} {s r : PS} (hadv : Adv L s r) : ∀ v m', ZP L a ((m.upd b C).ext bs) s v m' → ZR L a b m r v m' := by
 rintro v m' ⟨h1, rfl, i', d', rfl⟩
 have := hadv.st h1
 subst this
 exact ⟨h1, rfl, C, bs, i', d', rfl⟩
theorem zr_leave {L : List Tk} {a b : Nat} {m : M} {r : PS} {i : Nat} {d : Int} (hA : a < m.nb) (hB : b < m.nb) (hne : b ≠ a) : ∀ v m', ZR L a b m r v m' → ∃ m1, Forget m' m1 ∧ LeaveZ (pst L a m i d) (ZP L a (m.del b) r) v m1 := by
 rintro v m' ⟨h1, rfl, C, bs, i', d', rfl⟩
 have hdn : (m.del b).nb = m.nb := by simp [M.del, M.nb]
 have hgd : ∀ id c, (m.del b).get id = some c → id ≠ b ∧ m.get id = some c := fun id c h => by
  unfold M.del M.get at *
  simp only [] at h
  by_cases hib : id = b
  ·subst hib
   rw [List.getElem?_set_self (by unfold M.nb at hB; omega)] at h
   cases h
  ·rw [List.getElem?_set_ne (Ne.symm hib)] at h
   exact ⟨hib, h⟩
 refine ⟨pst L a ((m.del b).ext bs) i' d', ⟨?_, rfl, fun id c h => ?_⟩, ?_⟩
 ·show (pst L a ((m.del b).ext bs) i' d').nb = (pst L a ((m.upd b C).ext bs) i' d').nb
  rw [pst_nb, pst_nb, ext_nb, ext_nb, hdn, upd_nb]
 ·unfold pst at h ⊢
  rw [M.get_upd] at h
  rw [M.get_upd]
  have e1 : ((m.del b).ext bs).nb = ((m.upd b C).ext bs).nb := by rw [ext_nb, ext_nb, hdn, upd_nb]
  rw [e1] at h
  split at h
  ·rename_i hc; rw [if_pos hc]; exact h
  ·rename_i hc
   rw [if_neg hc]
   by_cases hlt : id < m.nb
   ·have h2 : (m.del b).get id = some c := by
      unfold M.ext M.get at h
      unfold M.get
      rwa [List.getElem?_append_left (by unfold M.nb at hdn hlt; omega)] at h
    obtain ⟨q1, q2⟩ := hgd _ _ h2
    have h3 : (m.upd b C).get id = some c := by rw [M.get_upd, if_neg (fun h => q1 h.1)]; exact q2
    unfold M.ext M.get
    unfold M.get at h3
    rw [List.getElem?_append_left (by have := upd_nb m b C; unfold M.nb at this hlt; omega)]
    exact h3
   ·have hk : id = m.nb + (id - m.nb) := by omega
    rw [hk, ext_get hdn] at h
    rw [hk, ext_get (upd_nb m b C)]
    exact h
 ·rw [← pst_ext bs (by rw [hdn]; exact hA)]
  refine ⟨_, _, .gen _ (pStop r.l r.c r.k) (pst L a (m.del b) i' d') (.inl rfl) (by rw [pst_nb, pst_nb, hdn]; exact Nat.le_refl _) (by rw [pst_nt, pst_nt]; exact Nat.le_refl _) ?_ ?_ (fun id c hc => ?_) (pure_withinC _ _ _ rfl), h1, rfl, i', d', rfl⟩
  ·show ((pst L a (m.del b) i' d').boxes ++ bs).take (pst L a (m.del b) i' d').boxes.length = _
   simp
  ·show ((pst L a (m.del b) i' d').toks).take (pst L a (m.del b) i' d').toks.length = _
   simp
  ·unfold pst at hc
   rw [M.get_upd] at hc
   split at hc
   ·cases hc
    exact .inr (by simp [PV.withins, PV.within])
   ·rename_i h2
    refine .inl ?_
    unfold pst
    rw [M.get_upd, if_neg (by rw [hdn] at h2; exact h2)]
    exact (hgd _ _ hc).2
theorem aDrwPR {P : Program} {mu : List Nat} {Z : PV → M → Prop} {K : Exit → F → M → Prop} {id : Nat} {l : List Oper} {f : F} {m : M} (c k0 : Nat) (S : M → Prop) (hk : k0 < c) (hcl : c ≤ l.length) (hok : lexOkC mu l.toArray c = true) (hp : okP mu l.toArray c k0 = true) (hS : S m)
    (h : ∀ R : F → M → Prop, (∀ f m, aAll P mu l.toArray (K .normal) (l.length - c) (List.range' c (l.length - c)) f m → R f m) → aLexL P mu l.toArray S (fun f m => aOp P mu Z (l[k0]'(by omega)) f m fun v m' => S m' ∧ R (F.put f (l[k0]'(by omega)).dst v) m') (l.take k0 ++ (l.drop (k0 + 1)).take (c - 1 - k0)) f m) : aCode P mu Z (.region id l.toArray true) K f m :=
 aDrwP c k0 S hk hcl hok hp hS (h _ fun _ _ h => h)
set_option linter.defProp false
def tfPp10 := And.intro @tfA (And.intro @Ex.settle_pv (And.intro @Ex.pure_pv (And.intro @Ex.cells_pv (And.intro @Ex.cs.eq_1 (And.intro @On.pv.eq_1 (And.intro @Ty.pv.eq_1 (And.intro @Va.settle_pv (And.intro @Va.pure_pv (And.intro @Va.cells_pv (And.intro @Va.cs.eq_1 (And.intro @Tk.settle_pv (And.intro @Tk.pure_pv (And.intro @Tk.cells_pv (And.intro @Tk.pv.eq_1 (And.intro @Tk.cs.eq_1 (And.intro @Tr.settle_pv (And.intro @Tr.pure_pv (And.intro @Tr.cells_pv (And.intro @Qu.settle_pv (And.intro @Qu.pure_pv (And.intro @Qu.cells_pv (And.intro @Am.settle_pv (And.intro @Am.pure_pv (And.intro @Am.cells_pv (And.intro @pst_nb (And.intro @pst_nt (And.intro @pst_fresh (And.intro @pst_use (And.intro @pst_free (And.intro @pst_alive (And.intro @pst_a (And.intro @pst_upda (And.intro @pst_ext (And.intro @pst_ext2 (And.intro @pst_ea (And.intro @pst_own (And.intro @pst_own0 (And.intro @pst_ou (And.intro @pst_ou0 (And.intro @rp_nb (And.intro @rp_a (And.intro @rp_b (And.intro @rp_updb (And.intro @rp_ext (And.intro @rp_own (And.intro @rp_own0 (And.intro @rp_ou @rp_ou0)))))))))))))))))))))))))))))))))))))))))))))))

set_option maxHeartbeats 16000000 in
theorem pright_any {L : List Tk} (hL : TksOk L) : PRightC L := by
 intro a b m hA hB hne s hs k0 d hd lhs t hC
 have hsk : ∀ (s : PS) w, s.skp L w = if s.is L w then s.nx else s := fun _ _ => rfl
 have hm0 := rs_0 hC
 have hst : pst L a m s.i d = pst L a ((m.upd b [.v (.int .u8 0), .sl .no (lhs.map pS), .v (.string ⟨#[]⟩), .sl .full [], .v (.bool false), .v (.int .u8 0), .v (.int .u8 0), .v (.int .i32 0), .v (.string ⟨#[]⟩), .sl .full [], .sl .full [], .v (.int .i64 0), .v (.int .i64 0), .sl .full [], .v (.int .i64 t.line), .v (.int .i64 t.col)]).ext []) s.i d := by rw [← hm0]
 obtain ⟨R, hR0⟩ : ∃ r, rRight L d lhs t s = r := ⟨_, rfl⟩
 rw [hR0]
 have h0 : (s.k == 0) = true := by rw [k0]; rfl
 have hlt := hs.lt
 have hg0 := ptk_at hs
 have hi : IntKind.i64.wrap ((s.i : Int) + 1) = ((s.i + 1 : Nat) : Int) := by have := hL.le; rw [wrap64 (by omega)]; omega
 obtain ⟨c1, g1⟩ : ∃ b, ((s.tk L).kind == 2) = b := ⟨_, rfl⟩
 have hun : R = (if s.call L then
     (if (rArgL L (L.length + 1) d [] ((rName L 2 s).2.want L wOpen)).2.is L wEvery then
      (.mk 2 lhs (rName L 2 s).1 (rArgL L (L.length + 1) d [] ((rName L 2 s).2.want L wOpen)).1 true (eX L d (rArgL L (L.length + 1) d [] ((rName L 2 s).2.want L wOpen)).2.nx).1 [] t.line t.col, (eX L d (rArgL L (L.length + 1) d [] ((rName L 2 s).2.want L wOpen)).2.nx).2)
     else (.mk 2 lhs (rName L 2 s).1 (rArgL L (L.length + 1) d [] ((rName L 2 s).2.want L wOpen)).1 false z0 [] t.line t.col, (rArgL L (L.length + 1) d [] ((rName L 2 s).2.want L wOpen)).2))
  else (.mk 1 lhs ⟨#[]⟩ [] false (eX L d (if lhs.length == 1 then s else s.here L 2)).1 [] t.line t.col, (eX L d (if lhs.length == 1 then s else s.here L 2)).2)) := by rw [← hR0]; unfold rRight; rw [h0]; rfl
 refine ACallsZ.enterF (mu := [67]) (zr_leave hA hB hne) ok_mix Tryz.func136 rfl (by kernel_rfl) (by kernel_rfl) (by simp only [List.length_cons, List.length_nil, Tryz.ntmps136]; omega) ?_
 conv => arg 7; rw [hst]
 (repeat refine aSeq fun X hX => ?_)
 have notcall : ∀ g : F, g 0 = .bp a 0 → g 1 = .bp b 0 → g 37 = .v (.bool false) → s.call L = false → X g (pst L a ((m.upd b [.v (.int .u8 0), .sl .no (lhs.map pS), .v (.string ⟨#[]⟩), .sl .full [], .v (.bool false), .v (.int .u8 0), .v (.int .u8 0), .v (.int .i32 0), .v (.string ⟨#[]⟩), .sl .full [], .sl .full [], .v (.int .i64 0), .v (.int .i64 0), .sl .full [], .v (.int .i64 t.line), .v (.int .i64 t.col)]).ext []) s.i d) := by
  intro g f0 f1 f37 hcl
  rw [hcl] at hun
  simp only [Bool.false_eq_true, ↓reduceIte] at hun
  refine hX _ _ ?_
  clear hX X
  obtain ⟨c5, g5⟩ : ∃ b, (lhs.length == 1) = b := ⟨_, rfl⟩
  have g5i : ((lhs.length : Int) == 1) = c5 := by rw [← g5]; cases hq : (lhs.length == 1) <;> simp at hq ⊢ <;> omega
  have g5n : ((lhs.length : Int) != 1) = !c5 := by rw [← g5i]; rfl
  simp only [g5] at hun
  cases c5 with
  | true =>
   simp only [↓reduceIte] at hun
   have b1 := (eX_adv hL (d := d) hs).1
   have e1 : Adv L (eX L d s).2 R.2 := by rw [hun]; exact .refl b1.ok
   (repeat revert X); refine wE (And.intro tfPp10 (And.intro hA (And.intro hB (And.intro hne (And.intro f0 (And.intro f1 (And.intro f37 g5i))))))) ?_; repeat intro X hX
   refine callP (peX_any hL a _ (by rw [ext_nb, upd_nb]; omega) s hs k0 d hd) (zr e1) ?_
   rintro v m' ⟨k1, rfl, rfl⟩
   generalize eX L d s = e at *
   rw [show e.1.pv = .ag [.v (.int .u8 e.1.kind), .v (.int .u8 e.1.op), .v (.int .i32 e.1.n), .v (.string e.1.name), .sl .no (e.1.names.map pS), .sl .no (e.1.kids.map Ex.pv), .v (.int .i64 e.1.line), .v (.int .i64 e.1.col)] from Ex.pv_eq e.1]
   refine wS (And.intro tfPp10 (And.intro hA (And.intro hB hne))) ?_
   (repeat revert X); refine wE (And.intro tfPp10 (And.intro hA (And.intro hB (And.intro hne (And.intro f0 (And.intro f1 f37)))))) ?_; repeat intro X hX
   refine wR Tryz.results136 ?_
   exact leave_rp hA hB (fun _ _ => rfl) rfl ⟨by rw [hun]; exact k1, .full, .no, .no, by rw [hun]; rfl, by rw [hun]; rfl⟩
  | false =>
   simp only [Bool.false_eq_true, ↓reduceIte] at hun
   have b1 := here_adv hL hs 2
   have b2 := (eX_adv hL (d := d) b1.ok).1
   have e1 : Adv L (s.here L 2) R.2 := by rw [hun]; exact b2
   (repeat revert X); refine wE (And.intro tfPp10 (And.intro hA (And.intro hB (And.intro hne (And.intro f0 (And.intro f1 (And.intro f37 g5i))))))) ?_; repeat intro X hX
   refine callP (pfail_any hL a _ (by rw [ext_nb, upd_nb]; omega) s hs d k0 2 (by decide)) (zr e1) (fun v m' h => h.elim)
 have iscall : ∀ g : F, g 0 = .bp a 0 → g 1 = .bp b 0 → g 37 = .v (.bool true) → s.call L = true → X g (pst L a ((m.upd b [.v (.int .u8 0), .sl .no (lhs.map pS), .v (.string ⟨#[]⟩), .sl .full [], .v (.bool false), .v (.int .u8 0), .v (.int .u8 0), .v (.int .i32 0), .v (.string ⟨#[]⟩), .sl .full [], .sl .full [], .v (.int .i64 0), .v (.int .i64 0), .sl .full [], .v (.int .i64 t.line), .v (.int .i64 t.col)]).ext []) s.i d) := by
  intro g f0 f1 f37 hcl
  rw [hcl] at hun
  simp only [↓reduceIte] at hun
  clear notcall
  refine hX _ _ ?_
  clear hX X
  have b1 := name_adv hL hs (kd := 2) (by decide)
  have b2 := want_adv hL b1.ok wOpen
  have b3 := argL_adv hL (L.length + 1) d [] _ b2.ok
  have e3 : Adv L (rArgL L (L.length + 1) d [] ((rName L 2 s).2.want L wOpen)).2 R.2 := by
   rw [hun]
   split
   ·rename_i hi2
    have b4 := is_adv hL b3.ok hi2
    exact b4.trans (eX_adv hL b4.ok).1
   ·exact .refl b3.ok
  have e2 := b3.trans e3
  have e1 := b2.trans e2
  (repeat revert X); refine wE (And.intro tfPp10 (And.intro hA (And.intro hB (And.intro hne (And.intro f0 (And.intro f1 f37)))))) ?_; repeat intro X hX
  refine callP (pname_any hL a _ (by rw [ext_nb, upd_nb]; omega) s hs d k0 2) (zr e1) ?_
  rintro v m' ⟨k1, rfl, rfl⟩
  generalize rName L 2 s = nm at *
  refine wS (And.intro tfPp10 (And.intro hA (And.intro hB hne))) ?_
  (repeat revert X); refine wE f0 ?_; repeat intro X hX
  refine callP (pwant_any hL a _ (by rw [ext_nb, upd_nb]; omega) _ b1.ok d k1 wOpen) (zr e2) ?_
  rintro v m' ⟨k2, rfl⟩
  generalize nm.2.want L wOpen = s2 at *
  refine wS aEQ_t ?_
  (repeat revert X); refine wE aEQ_t ?_; repeat intro X hX
  obtain ⟨r, hr0⟩ : ∃ r, rArgL L (L.length + 1) d [] s2 = r := ⟨_, rfl⟩
  rw [hr0] at hun e3
  have hmx := mu_fx (L := L) (s := s2)
  have hll := hL.le
  have fin : ∀ (g : F) (l : List Ex) (s3 : PS) (va : PV) (bs : List (Option (List PV))), GA m l va bs → s3.ok L → s3.k = 0 → r = (l, s3) → g 0 = .bp a 0 → g 1 = .bp b 0 → X g (pst L a ((m.upd b [.v (.int .u8 2), .sl .no (lhs.map pS), .v (.string nm.1), va, .v (.bool false), .v (.int .u8 0), .v (.int .u8 0), .v (.int .i32 0), .v (.string ⟨#[]⟩), .sl .full [], .sl .full [], .v (.int .i64 0), .v (.int .i64 0), .sl .full [], .v (.int .i64 t.line), .v (.int .i64 t.col)]).ext bs) s3.i d) := by
   intro g l s3 va bs hga hs3 k3 hr f0 f1
   rw [hr] at hun e3
   simp only [] at hun
   refine hX _ _ ?_
   clear hX X
   have hfz : ∃ oa bs', (oa = Own.full ∨ oa = Own.no) ∧ ∀ f : F, GStep f (pst L a ((m.upd b [.v (.int .u8 2), .sl .no (lhs.map pS), .v (.string nm.1), va, .v (.bool false), .v (.int .u8 0), .v (.int .u8 0), .v (.int .i32 0), .v (.string ⟨#[]⟩), .sl .full [], .sl .full [], .v (.int .i64 0), .v (.int .i64 0), .sl .full [], .v (.int .i64 t.line), .v (.int .i64 t.col)]).ext bs) s3.i d) f (pst L a ((m.upd b [.v (.int .u8 2), .sl .no (lhs.map pS), .v (.string nm.1), .sl oa (l.map Ex.pv), .v (.bool false), .v (.int .u8 0), .v (.int .u8 0), .v (.int .i32 0), .v (.string ⟨#[]⟩), .sl .full [], .sl .full [], .v (.int .i64 0), .v (.int .i64 0), .sl .full [], .v (.int .i64 t.line), .v (.int .i64 t.col)]).ext bs') s3.i d) := by
    rcases hga with ⟨rfl, rfl, rfl⟩ | ⟨hpos, j, cap, c, rfl, hbj, hcap, hcl2, htk, hone⟩
    ·exact ⟨.full, [], .inl rfl, fun f => .inl ⟨rfl, rfl⟩⟩
    ·refine ⟨.no, bs.set j none, .inr rfl, fun f => frz_rp (xs := l.map Ex.pv) (sz := 8) hA hB hne hbj ⟨c.drop (l.length * 8), ?_, fun y hy => hone y (List.mem_of_mem_drop hy)⟩ (fun x hx => ?_) ?_⟩
     ·rw [← List.take_append_drop (l.length * 8) c]
      congr 1
      ·rw [htk, List.flatMap_map]
       congr 1
       funext e
       exact (Ex.cells_pv e).symm
      ·rw [List.take_append_drop]
     ·obtain ⟨e, _, rfl⟩ := List.mem_map.1 hx
      exact ⟨by rw [Ex.cells_pv]; rfl, Ex.ok_pv e⟩
     ·simp [PV.frz]
   obtain ⟨oa, bs', hoa, hfz⟩ := hfz
   (repeat refine aSeq fun X hX => ?_)
   refine aRegG (hfz _) ?_
   refine wS (And.intro f0 f1) ?_
   refine callM (pskip_any hL a _ (by rw [ext_nb, upd_nb]; omega) _ hs3 d k3 wEvery) ?_
   rintro v m' ⟨rfl, rfl⟩
   rw [hsk]
   cases h5 : s3.is L wEvery with
   | true =>
    have b5 := is_adv hL hs3 h5
    have b6 := (eX_adv hL (d := d) b5.ok).1
    simp only [h5, ↓reduceIte] at hun
    have e6 : Adv L (eX L d s3.nx).2 R.2 := by rw [hun]; exact .refl b6.ok
    rw [if_pos rfl]
    refine wS (And.intro tfPp10 (And.intro hA (And.intro hB (And.intro hne @pB.eq_1)))) ?_
    (repeat revert X); refine wE (And.intro tfPp10 (And.intro f0 (And.intro f1 (And.intro hA (And.intro hB hne))))) ?_; repeat intro X hX
    refine callP (peX_any hL a _ (by rw [ext_nb, upd_nb]; omega) s3.nx b5.ok k3 d hd) (zr e6) ?_
    rintro v m' ⟨k4, rfl, rfl⟩
    generalize eX L d s3.nx = e at *
    rw [show e.1.pv = .ag [.v (.int .u8 e.1.kind), .v (.int .u8 e.1.op), .v (.int .i32 e.1.n), .v (.string e.1.name), .sl .no (e.1.names.map pS), .sl .no (e.1.kids.map Ex.pv), .v (.int .i64 e.1.line), .v (.int .i64 e.1.col)] from Ex.pv_eq e.1]
    refine wS (And.intro tfPp10 (And.intro hA (And.intro hB hne))) ?_
    (repeat revert X); refine wE aEQ_t ?_; repeat intro X hX
    refine wR Tryz.results136 ?_
    rcases hoa with rfl | rfl
    ·exact leave_rp hA hB (fun _ _ => rfl) rfl ⟨by rw [hun]; exact k4, .full, .no, .no, by rw [hun]; rfl, by rw [hun]; rfl⟩
    ·exact leave_rp hA hB (fun _ _ => rfl) rfl ⟨by rw [hun]; exact k4, .no, .no, .no, by rw [hun]; rfl, by rw [hun]; rfl⟩
   | false =>
    simp only [h5, Bool.false_eq_true, ↓reduceIte] at hun
    rw [if_neg (by simp)]
    refine wS (And.intro tfPp10 (And.intro hA (And.intro hB (And.intro hne @pB.eq_1)))) ?_
    (repeat revert X); refine wE (And.intro tfPp10 (And.intro f1 (And.intro hA (And.intro hB hne)))) ?_; repeat intro X hX
    refine wR Tryz.results136 ?_
    rcases hoa with rfl | rfl
    ·exact leave_rp hA hB (fun _ _ => rfl) rfl ⟨by rw [hun]; exact k3, .full, .full, .full, by rw [hun]; rfl, by rw [hun]; rfl⟩
    ·exact leave_rp hA hB (fun _ _ => rfl) rfl ⟨by rw [hun]; exact k3, .no, .full, .full, by rw [hun]; rfl, by rw [hun]; rfl⟩
  clear hX
  have hz : decide (((0 : Nat) : Int) > 0) = false := rfl
  obtain ⟨I, hI⟩ : ∃ I : Nat → F → M → Prop, ∀ n g m', I n g m' = (∃ (l : List Ex) (s3 : PS) (va : PV) (bs : List (Option (List PV))), s3.ok L ∧ s3.k = 0 ∧ mu L s3 + 16 ≤ 16 * n ∧ l.length + n ≤ L.length + 1 ∧ r = rArgL L n d l s3 ∧ g 0 = .bp a 0 ∧ g 1 = .bp b 0 ∧ m' = pst L a ((m.upd b [.v (.int .u8 2), .sl .no (lhs.map pS), .v (.string nm.1), va, .v (.bool false), .v (.int .u8 0), .v (.int .u8 0), .v (.int .i32 0), .v (.string ⟨#[]⟩), .sl .full [], .sl .full [], .v (.int .i64 0), .v (.int .i64 0), .sl .full [], .v (.int .i64 t.line), .v (.int .i64 t.col)]).ext bs) s3.i d ∧ GA m l va bs) := ⟨_, fun _ _ _ => rfl⟩
  refine aLoopN I (L.length + 1) ?_ ?_
  ·rw [hI]; exact ⟨[], s2, .sl .full [], [], b2.ok, k2, by omega, by simp, hr0.symm, f0, f1, rfl, .inl ⟨rfl, rfl, rfl⟩⟩
  clear f0 f1 f37 hr0 e2 e1 b3
  intro W n g m' hrel hW
  rw [hI] at hrel
  obtain ⟨l, s3, va, bs, hs3, k3, hn, hln, hr, f0, f1, rfl, hga⟩ := hrel
  obtain ⟨n, rfl⟩ : ∃ k, n = k + 1 := ⟨n - 1, by omega⟩
  have h1 : (s3.k == 0) = true := by rw [k3]; rfl
  have hun2 : rArgL L (n + 1) d l s3 = if !s3.is L wShut then rArgL L n d (l ++ [(eX L d (if l.length == 0 then s3 else s3.want L wComma)).1]) (eX L d (if l.length == 0 then s3 else s3.want L wComma)).2 else (l, s3.skp L wShut) := by
   have : rArgL L (n + 1) d l s3 = if s3.k == 0 && !s3.is L wShut then rArgL L n d (l ++ [(eX L d (if l.length == 0 then s3 else s3.want L wComma)).1]) (eX L d (if l.length == 0 then s3 else s3.want L wComma)).2 else (l, s3.skp L wShut) := rfl
   rw [this, h1, Bool.true_and]
  refine vE f0 ?_; repeat intro X hX
  refine callM (pskip_any hL a _ (by rw [ext_nb, upd_nb]; omega) _ hs3 d k3 wShut) ?_
  rintro v m' ⟨rfl, rfl⟩
  rw [hsk]
  cases h2 : s3.is L wShut with
  | true =>
   rw [h2, if_neg (by simp), hsk, h2, if_pos rfl] at hun2
   rw [if_pos rfl]
   have b3 := is_adv hL hs3 h2
   simp -implicitDefEqProofs only [↓slp, slb, ↓reduceIte, jF, pB]
   (repeat (first | refine aExit ?_; try simp only [slx, ↓reduceIte, jA, reduceCtorEq] | refine aIf ?_; simp -implicitDefEqProofs only [slb, ↓reduceIte] | apply hX; clear hX X))
   exact fin _ l s3.nx va bs hga b3.ok k3 (by rw [hr, hun2]) f0 f1
  | false =>
  rw [h2, if_pos (by rfl)] at hun2
  rw [if_neg (by simp)]
  have n0 := mu0 hs3 k3
  have more : ∀ {e : Ex × PS} {l2 : List Ex}, e.2.ok L → r = rArgL L n d l2 e.2 → Adv L e.2 R.2 := fun h1 h2 => by
   refine Adv.trans (s' := r.2) ?_ e3
   rw [h2]
   exact argL_adv hL _ _ _ _ h1
  rcases hga with ⟨rfl, rfl, rfl⟩ | ⟨hpos, j, cap, c, rfl, hbj, hcap, hcl2, htk, hone⟩
  ·have b3 := eX_adv hL (d := d) hs3
   have n3 := mu_lt b3.1 hs3 k3 b3.2
   simp only [List.length_nil, beq_self_eq_true, ↓reduceIte] at hun2
   have e4 := more b3.1.ok (by rw [hr, hun2])
   refine wS @pB.eq_1 ?_
   (repeat revert X); refine wE (And.intro tfPp10 (And.intro f1 (And.intro hA (And.intro hB (And.intro hne hz))))) ?_; repeat intro X hX
   refine aDrwPR 8 5 (isBX b [.v (.int .u8 2), .sl .no (lhs.map pS), .v (.string nm.1), .sl .full [], .v (.bool false), .v (.int .u8 0), .v (.int .u8 0), .v (.int .i32 0), .v (.string ⟨#[]⟩), .sl .full [], .sl .full [], .v (.int .i64 0), .v (.int .i64 0), .sl .full [], .v (.int .i64 t.line), .v (.int .i64 t.col)]) (by decide) (by decide) (by kernel_rfl) (by kernel_rfl) (isBX_of (rp_b hA hB hne)) (fun R0 hR => ?_)
   have hS : ∀ x : Subtype (fun m2 : M => m2.get b = some [.v (.int .u8 2), .sl .no (lhs.map pS), .v (.string nm.1), .sl .full [], .v (.bool false), .v (.int .u8 0), .v (.int .u8 0), .v (.int .i32 0), .v (.string ⟨#[]⟩), .sl .full [], .sl .full [], .v (.int .i64 0), .v (.int .i64 0), .sl .full [], .v (.int .i64 t.line), .v (.int .i64 t.col)]), x.1.get b = some [.v (.int .u8 2), .sl .no (lhs.map pS), .v (.string nm.1), .sl .full [], .v (.bool false), .v (.int .u8 0), .v (.int .u8 0), .v (.int .i32 0), .v (.string ⟨#[]⟩), .sl .full [], .sl .full [], .v (.int .i64 0), .v (.int .i64 0), .sl .full [], .v (.int .i64 t.line), .v (.int .i64 t.col)] := fun x => x.2
   simp -implicitDefEqProofs only [↓slp, slb, ↓reduceIte, reduceCtorEq, jA, jB, jC, jD, jE, jF, tfPp10, f0, f1, hA, hB, hne, isBX_all, hS, List.getElem_cons_zero, List.getElem_cons_succ, Nat.reduceSub]
   refine callP (peX_any hL a _ (by rw [ext_nb, upd_nb]; omega) s3 hs3 k3 d hd) (zr e4) ?_
   rintro v m' ⟨k5, rfl, rfl⟩
   generalize eX L d s3 = e at *
   rw [show e.1.pv = .ag [.v (.int .u8 e.1.kind), .v (.int .u8 e.1.op), .v (.int .i32 e.1.n), .v (.string e.1.name), .sl .no (e.1.names.map pS), .sl .no (e.1.kids.map Ex.pv), .v (.int .i64 e.1.line), .v (.int .i64 e.1.col)] from Ex.pv_eq e.1]
   refine ⟨isBX_of (rp_b hA hB hne), hR _ _ ?_⟩
   clear hR R0
   refine aAll_s (r := [8]) (by kernel_rfl) ?_
   intro i hi
   simp only [List.mem_cons, List.not_mem_nil, or_false] at hi
   subst hi
   refine ⟨_, [9, 10, 11, 12, 13], rfl, by decide, rfl, ?_⟩
   refine wG tfPp10 ?_
   refine ⟨by unfold maxLen; omega, ?_⟩
   intro w mw hgr
   obtain ⟨j2, cap2, c2, bs2, rfl, rfl, hj2, hcap2, hcl2', ht2, ho2⟩ := growN_gp hA hgr
   have hj2' : (bs2[j2]?).join = some c2 := by rw [hj2]; rfl
   clear hgr
   refine aAll_q 9 (t := [10, 11, 12, 13]) (by kernel_rfl) (by decide) rfl rfl ?_
   refine wG tfPp10 ?_
   refine aAll_q 11 (t := [10, 12, 13]) (by kernel_rfl) (by decide) rfl rfl ?_
   refine wG aEQ_t ?_
   refine aAll_q 12 (t := [10, 13]) (by kernel_rfl) (by decide) rfl rfl ?_
   refine wG tfPp10 ?_
   refine aAll_s (r := [10, 13]) (by kernel_rfl) ?_
   intro i hi
   simp only [List.mem_cons, List.not_mem_nil, or_false] at hi
   rcases hi with rfl | rfl
   ·refine ⟨_, [13], rfl, by decide, rfl, ?_⟩
    refine wG (And.intro tfPp10 (And.intro hA hj2')) ?_
    refine ⟨(by simp only [List.length_nil] at hcap2; omega), ?_⟩
    refine aAll_s (r := [13]) (by kernel_rfl) ?_
    intro i hi
    simp only [List.mem_cons, List.not_mem_nil, or_false] at hi
    subst hi
    refine ⟨_, [], rfl, by decide, rfl, ?_⟩
    refine wG (And.intro tfPp10 (And.intro hA (And.intro hB hne))) ?_
    unfold aAll
    try simp only [slx, ↓reduceIte]
    refine hW n _ _ (by omega) ?_
    rw [hI]
    exact ⟨[] ++ [e.1], e.2, _, _, b3.1.ok, k5, by omega, by simp at hln ⊢; omega, by rw [hr, hun2], f0, f1, rfl, ga_put hj2 hcap2 hcl2' ht2 ho2 e.1⟩
   ·refine ⟨_, [10], rfl, by decide, rfl, ?_⟩
    refine wG (And.intro tfPp10 (And.intro hA (And.intro hB hne))) ?_
    refine aAll_s (r := [10]) (by kernel_rfl) ?_
    intro i hi
    simp only [List.mem_cons, List.not_mem_nil, or_false] at hi
    subst hi
    refine ⟨_, [], rfl, by decide, rfl, ?_⟩
    refine wG (And.intro tfPp10 (And.intro hA hj2')) ?_
    refine ⟨(by simp only [List.length_nil] at hcap2; omega), ?_⟩
    unfold aAll
    try simp only [slx, ↓reduceIte]
    refine hW n _ _ (by omega) ?_
    rw [hI]
    exact ⟨[] ++ [e.1], e.2, _, _, b3.1.ok, k5, by omega, by simp at hln ⊢; omega, by rw [hr, hun2], f0, f1, rfl, ga_put hj2 hcap2 hcl2' ht2 ho2 e.1⟩
  ·have hbj' : (bs[j]?).join = some c := by rw [hbj]; rfl
   have hb0 : (l.length == 0) = false := by cases l with
    | nil => simp at hpos
    | cons x r => rfl
   have hg0 : decide ((l.length : Int) > 0) = true := by rw [len_posb, hb0]; rfl
   simp only [hb0, Bool.false_eq_true, ↓reduceIte] at hun2
   have b4 := want_adv hL hs3 wComma
   have n4 := want_mu hL hs3 wComma
   have b3 := eX_adv hL (d := d) b4.ok
   have n3 := mu_le b3.1
   have e4 := more b3.1.ok (by rw [hr, hun2])
   have e5 := b3.1.trans e4
   refine wS @pB.eq_1 ?_
   (repeat (first | refine aSeq fun X hX => ?_ | refine aSkip ?_ | (first | apply aReg | apply aIf); simp -implicitDefEqProofs only [↓slp, slb, ↓reduceIte, reduceCtorEq, jA, jB, jD, jF, tfPp10, f0, f1, hA, hB, hne, hg0, exists_eq'] | apply hX; clear hX X))
   refine callP (pwant_any hL a _ (by rw [ext_nb, upd_nb]; omega) s3 hs3 d k3 wComma) (zr e5) ?_
   rintro v m' ⟨k4, rfl⟩
   refine wS aEQ_t ?_
   (repeat (apply hX; clear hX X))
   refine aDrwPR 8 5 (isBX b [.v (.int .u8 2), .sl .no (lhs.map pS), .v (.string nm.1), .gs (m.nb + j) l.length cap, .v (.bool false), .v (.int .u8 0), .v (.int .u8 0), .v (.int .i32 0), .v (.string ⟨#[]⟩), .sl .full [], .sl .full [], .v (.int .i64 0), .v (.int .i64 0), .sl .full [], .v (.int .i64 t.line), .v (.int .i64 t.col)]) (by decide) (by decide) (by kernel_rfl) (by kernel_rfl) (isBX_of (rp_b hA hB hne)) (fun R0 hR => ?_)
   have hS : ∀ x : Subtype (fun m2 : M => m2.get b = some [.v (.int .u8 2), .sl .no (lhs.map pS), .v (.string nm.1), .gs (m.nb + j) l.length cap, .v (.bool false), .v (.int .u8 0), .v (.int .u8 0), .v (.int .i32 0), .v (.string ⟨#[]⟩), .sl .full [], .sl .full [], .v (.int .i64 0), .v (.int .i64 0), .sl .full [], .v (.int .i64 t.line), .v (.int .i64 t.col)]), x.1.get b = some [.v (.int .u8 2), .sl .no (lhs.map pS), .v (.string nm.1), .gs (m.nb + j) l.length cap, .v (.bool false), .v (.int .u8 0), .v (.int .u8 0), .v (.int .i32 0), .v (.string ⟨#[]⟩), .sl .full [], .sl .full [], .v (.int .i64 0), .v (.int .i64 0), .sl .full [], .v (.int .i64 t.line), .v (.int .i64 t.col)] := fun x => x.2
   simp -implicitDefEqProofs only [↓slp, slb, ↓reduceIte, reduceCtorEq, jA, jB, jC, jD, jE, jF, tfPp10, f0, f1, hA, hB, hne, isBX_all, hS, exists_eq', List.getElem_cons_zero, List.getElem_cons_succ, Nat.reduceSub]
   refine callP (peX_any hL a _ (by rw [ext_nb, upd_nb]; omega) _ b4.ok k4 d hd) (zr e4) ?_
   rintro v m' ⟨k5, rfl, rfl⟩
   generalize eX L d (s3.want L wComma) = e at *
   rw [show e.1.pv = .ag [.v (.int .u8 e.1.kind), .v (.int .u8 e.1.op), .v (.int .i32 e.1.n), .v (.string e.1.name), .sl .no (e.1.names.map pS), .sl .no (e.1.kids.map Ex.pv), .v (.int .i64 e.1.line), .v (.int .i64 e.1.col)] from Ex.pv_eq e.1]
   refine ⟨isBX_of (rp_b hA hB hne), hR _ _ ?_⟩
   clear hR R0
   refine aAll_s (r := [8]) (by kernel_rfl) ?_
   intro i hi
   simp only [List.mem_cons, List.not_mem_nil, or_false] at hi
   subst hi
   refine ⟨_, [9, 10, 11, 12, 13], rfl, by decide, rfl, ?_⟩
   refine wG (And.intro tfPp10 (And.intro hA hbj')) ?_
   refine ⟨⟨⟨hcl2, hcap⟩, by unfold maxLen; omega, by omega⟩, ?_⟩
   intro w mw hgr
   obtain ⟨j2, cap2, c2, bs2, rfl, rfl, hj2, hcap2, hcl2', ht2, ho2⟩ := growS_gp hA hbj hcap hcl2 htk hone hgr
   have hj2' : (bs2[j2]?).join = some c2 := by rw [hj2]; rfl
   clear hgr
   refine aAll_q 9 (t := [10, 11, 12, 13]) (by kernel_rfl) (by decide) rfl rfl ?_
   refine wG tfPp10 ?_
   refine aAll_q 11 (t := [10, 12, 13]) (by kernel_rfl) (by decide) rfl rfl ?_
   refine wG aEQ_t ?_
   refine aAll_q 12 (t := [10, 13]) (by kernel_rfl) (by decide) rfl rfl ?_
   refine wG tfPp10 ?_
   refine aAll_s (r := [10, 13]) (by kernel_rfl) ?_
   intro i hi
   simp only [List.mem_cons, List.not_mem_nil, or_false] at hi
   rcases hi with rfl | rfl
   ·refine ⟨_, [13], rfl, by decide, rfl, ?_⟩
    refine wG (And.intro tfPp10 (And.intro hA hj2')) ?_
    refine ⟨(by omega), ?_⟩
    refine aAll_s (r := [13]) (by kernel_rfl) ?_
    intro i hi
    simp only [List.mem_cons, List.not_mem_nil, or_false] at hi
    subst hi
    refine ⟨_, [], rfl, by decide, rfl, ?_⟩
    refine wG (And.intro tfPp10 (And.intro hA (And.intro hB hne))) ?_
    unfold aAll
    try simp only [slx, ↓reduceIte]
    refine hW n _ _ (by omega) ?_
    rw [hI]
    exact ⟨l ++ [e.1], e.2, _, _, b3.1.ok, k5, by omega, by simp; omega, by rw [hr, hun2], f0, f1, rfl, ga_put hj2 hcap2 hcl2' ht2 ho2 e.1⟩
   ·refine ⟨_, [10], rfl, by decide, rfl, ?_⟩
    refine wG (And.intro tfPp10 (And.intro hA (And.intro hB hne))) ?_
    refine aAll_s (r := [10]) (by kernel_rfl) ?_
    intro i hi
    simp only [List.mem_cons, List.not_mem_nil, or_false] at hi
    subst hi
    refine ⟨_, [], rfl, by decide, rfl, ?_⟩
    refine wG (And.intro tfPp10 (And.intro hA hj2')) ?_
    refine ⟨(by omega), ?_⟩
    unfold aAll
    try simp only [slx, ↓reduceIte]
    refine hW n _ _ (by omega) ?_
    rw [hI]
    exact ⟨l ++ [e.1], e.2, _, _, b3.1.ok, k5, by omega, by simp; omega, by rw [hr, hun2], f0, f1, rfl, ga_put hj2 hcap2 hcl2' ht2 ho2 e.1⟩
 refine aDrE ?_
 refine lexL2 rfl (by kernel_rfl) rfl (by kernel_rfl) (fun R0 hR => ?_)
 refine wS aEQ_t ?_
 refine callM (ptok_any hL a _ (by rw [ext_nb, upd_nb]; omega) s hs d) ?_
 rintro v m' ⟨rfl, rfl⟩
 refine ⟨rfl, hR _ _ ?_⟩
 clear hR R0
 cases c1 with
 | false =>
  simp -implicitDefEqProofs only [↓slp, slb, ↓reduceIte, jA, jB, jF, tfPp10, ↓gF, g1]
  exact notcall _ rfl rfl rfl (by unfold PS.call; rw [g1]; rfl)
 | true =>
  have hkd : (s.tk L).kind ≠ 0 := by have : (s.tk L).kind = 2 := by simpa using g1
                                     omega
  have hnx := nx_adv hL hs k0 hkd
  have hg1 : (L.map Tk.pv).getD (s.i + 1) PV.junk = _ := ptk_at hnx.ok
  have hlt1 : s.i + 1 < L.length := hnx.ok.lt
  have hb1 : (0 : Int) ≤ ((s.i + 1 : Nat) : Int) := by omega
  have hb2 : ((s.i + 1 : Nat) : Int) < (L.length : Int) := by omega
  have hcl : s.call L = ((s.tk L).kind == 2 && (s.nx.tk L).kind == 5 && eqS (s.nx.tk L).text wOpen) := rfl
  generalize s.nx.tk L = t1 at *
  obtain ⟨c2, g2⟩ : ∃ b, (t1.kind == 5) = b := ⟨_, rfl⟩
  obtain ⟨c3, g3⟩ : ∃ b, (t1.text.toList == wOpen.toList) = b := ⟨_, rfl⟩
  have g3w : (t1.text.toList == (⟨#[40]⟩ : ByteArray).toList) = c3 := g3
  rw [g1, g2, show eqS t1.text wOpen = c3 from g3] at hcl
  cases c2 with
  | false =>
   simp -implicitDefEqProofs only [↓slp, slb, ↓reduceIte, reduceCtorEq, jA, jB, jD, jE, jF, tfPp10, hA, ↓gT, ↓gF, g1, hi, hg1, hlt1, hb1, g2]
   exact notcall _ rfl rfl rfl (by rw [hcl]; rfl)
  | true =>
   simp -implicitDefEqProofs only [↓slp, slb, ↓reduceIte, reduceCtorEq, jA, jB, jD, jE, jF, tfPp10, hA, ↓gT, g1, hi, hg1, hlt1, hb1, g2, g3w]
   cases c3 with
   | false => exact notcall _ rfl rfl rfl (by rw [hcl]; rfl)
   | true => exact iscall _ rfl rfl rfl (by rw [hcl]; rfl)
end Go.Proofs.YtohgdopfjkjppaaGreatDoor
