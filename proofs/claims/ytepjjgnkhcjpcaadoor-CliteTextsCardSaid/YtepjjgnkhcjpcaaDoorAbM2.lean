/-
  The state at a store into a box, at an append within the spare places, and where a box is given up.
-/
import Derived.Test.YtepjjgnkhcjpcaaDoorAbM
set_option linter.unusedVariables false
namespace Go.Proofs.YtepjjgnkhcjpcaaDoor
open Go Go.RowKit

/-- One block's cells turn. -/
structure Rowed (w w' : World) (g : Nat) : Prop where
  other : ∀ k, k ≠ g → w'.heap[k]? = w.heap[k]?
  size : w'.heap.size = w.heap.size
  os : w'.os = w.os
  tape : w'.tape = w.tape
  output : w'.output = w.output

theorem Rowed.setRow (w : World) (g : Nat) (cs : Array Value) : Rowed w (w.setRow g cs) g :=
  ⟨fun k hk => setRow_other w g k cs hk, setRow_size w g cs, rfl, rfl, rfl⟩
theorem Rowed.below {w w' : World} {g B : Nat} (h : Rowed w w' g) (hB : B ≤ g) : Below B w w' :=
  ⟨h.os, h.tape, h.output, Nat.le_of_eq h.size.symm, fun k hk => h.other k (by omega)⟩
theorem Rowed.cell {w w' : World} {g : Nat} (h : Rowed w w' g) {b k : Nat} (hk : b ≠ g) : w'.cell? ⟨b, k, none⟩ = w.cell? ⟨b, k, none⟩ := by
  simp only [World.cell?, h.other b hk]
theorem Rowed.frozen {w w' : World} {g : Nat} (h : Rowed w w' g) {b k : Nat} (hk : b ≠ g) : w'.frozen? ⟨b, k, none⟩ = w.frozen? ⟨b, k, none⟩ := by
  simp only [World.frozen?, h.other b hk]

theorem setCells_rowed (b : Nat) : ∀ (vs : List Value) (o : Nat) (w : World), Rowed w (w.setCells b o vs) b
  | [], _, w => ⟨fun _ _ => rfl, rfl, rfl, rfl, rfl⟩
  | v :: r, o, w => by
    have ih := setCells_rowed b r (o + 1) (w.setCell ⟨b, o, none⟩ v)
    refine ⟨fun k hk => (ih.other k hk).trans (Below.heap_setCell w _ _ _ hk), ih.size.trans (World.size_setCell w _ _), ih.os, ih.tape, ih.output⟩

theorem Inv.storeG {G : Ghost} {m : M} {w w' : World} (hI : Inv G m w) {id : Nat} {c c' : List PV} (hid : m.get id = some c) (h : Rowed w w' (G.box id)) (o : Obj)
    (hb : w'.heap[G.box id]? = some o) (hba : BoxAt G w (G.mp id) o c') : Ext G w G w' ∧ Inv G (m.upd id c') w' := by
  obtain ⟨_, _, _, hbase⟩ := hI.box id c hid
  have hne : ∀ b o, G.set b o → b ≠ G.box id := fun b o hs he => hI.boxset id c hid o (he ▸ hs)
  have hE : Ext G w G w' := ⟨rfl, Nat.le_refl _, fun _ _ => rfl, fun _ _ => rfl, Nat.le_refl _, fun _ _ => rfl, fun _ _ h => h, fun b o hs => h.cell (hne b o hs), h.below hbase⟩
  have hlt : id < m.nb := M.get_lt hid
  have hcase : ∀ k d, (m.upd id c').get k = some d → (k = id ∧ d = c') ∨ (k ≠ id ∧ m.get k = some d) := fun k d hk => by
    rw [M.get_upd] at hk
    split at hk
    · rename_i hh; exact .inl ⟨hh.1, (Option.some.inj hk).symm⟩
    · rename_i hh; exact .inr ⟨fun he => hh ⟨he, hlt⟩, hk⟩
  have hhad : ∀ k d, (m.upd id c').get k = some d → ∃ d', m.get k = some d' := fun k d hk => by
    rcases hcase k d hk with ⟨rfl, rfl⟩ | ⟨_, hk⟩
    · exact ⟨c, hid⟩
    · exact ⟨d, hk⟩
  refine ⟨hE, ⟨?_, hI.nt, ?_, ?_, ?_, ?_, ?_, hI.tokd, ?_, hI.layE hE⟩⟩
  · simpa [M.upd] using hI.nb
  · rw [h.size]; exact hI.base
  · intro k d hk
    rcases hcase k d hk with ⟨rfl, rfl⟩ | ⟨hne', hk⟩
    · exact ⟨o, hb, hba.mono hE, hbase⟩
    · obtain ⟨o1, a1, a2, a5⟩ := hI.box k d hk
      exact ⟨o1, (h.other _ fun he => hne' (hI.inj k id d c hk hid he)).trans a1, a2.mono hE, a5⟩
  · intro k d hk
    obtain ⟨d', hk'⟩ := hhad k d hk
    exact hI.boxset k d' hk'
  · intro k k' d d' hk hk' heq
    obtain ⟨e1, hk1⟩ := hhad k d hk
    obtain ⟨e2, hk2⟩ := hhad k' d' hk'
    exact hI.inj k k' e1 e2 hk1 hk2 heq
  · intro t s ht
    obtain ⟨a1, a2⟩ := hI.tok t s ht
    refine ⟨a1, fun b o hbo => ?_⟩
    obtain ⟨d1, d2, d3, d4, d5⟩ := a2 b o hbo
    have hnb : b ≠ G.box id := fun he => d5 id c hid he.symm
    refine ⟨d1, d2, by rw [h.cell hnb]; exact d3, by rw [h.frozen hnb]; exact d4, fun k d hk => ?_⟩
    obtain ⟨d', hk'⟩ := hhad k d hk
    exact d5 k d' hk'
  · intro b o hs
    rw [h.size]; exact hI.set b o hs

theorem Inv.store {G : Ghost} {m : M} {w w' : World} (hI : Inv G m w) {id : Nat} {c c' : List PV} (hid : m.get id = some c) (hm : G.mp id = false) (h : Rowed w w' (G.box id)) (cs' : List Value) (e : TypeId)
    (hb : w'.heap[G.box id]? = some (.cells cs'.toArray e (0, 0))) (hl : c'.length = cs'.length)
    (hr : ∀ j (h1 : j < c'.length) (h2 : j < cs'.length), Rep G w c'[j] cs'[j]) (h1 : ∀ u ∈ cs', u.oneCell' = true) : Ext G w G w' ∧ Inv G (m.upd id c') w' :=
  hI.storeG hid h _ hb (by rw [hm]; exact .cells c' cs' e hl hr h1)

/-- Within the spare places of a living token: what is written is settled, the token dies, and the rest of the places is a new one's. -/
theorem Inv.room {G : Ghost} {m : M} {w : World} (hI : Inv G m w) {t s b lo hi : Nat} (ht : m.alive t s) (hres : G.res t = ⟨b, lo, hi, s⟩) (vs : List Value) (k : Nat) (hk : vs.length = k) (hfit : lo + k ≤ hi) :
    ∃ G', Ext G w G' (w.setCells b lo vs) ∧ Inv G' ((m.kill t).fresh s) (w.setCells b lo vs) ∧ G'.nt = G.nt + 1 ∧ G'.res G.nt = ⟨b, lo + k, hi, s⟩ ∧ (∀ o, lo ≤ o → o < lo + k → G'.settled b o) := by
  obtain ⟨_, hplace⟩ := hI.tok t s ht
  have hhas : ∀ o, lo ≤ o → o < hi → (G.res t).has b o := fun o h1 h2 => by rw [hres]; exact ⟨rfl, h1, h2⟩
  have hrow := setCells_rowed b vs lo w
  have hcell : ∀ b' o, (b' ≠ b ∨ o < lo ∨ lo + k ≤ o) → (w.setCells b lo vs).cell? ⟨b', o, none⟩ = w.cell? ⟨b', o, none⟩ := fun b' o h =>
    World.cell?_setCells_out b vs lo w ⟨b', o, none⟩ (fun he _ => by
      have he' : b' = b := he
      have : o < lo ∨ lo + k ≤ o := h.resolve_left (fun hn => hn he')
      simpa [hk] using this)
  have hsome : ∀ o, lo ≤ o → o < hi → ((w.setCells b lo vs).cell? ⟨b, o, none⟩).isSome = true := fun o h1 h2 => by
    by_cases hin : o < lo + k
    · have := World.cell?_setCells_in b vs lo w (fun j hj => (hplace b (lo + j) (hhas _ (by omega) (by omega))).2.2.1) (o - lo) (by omega)
      rw [show lo + (o - lo) = o by omega] at this
      rw [this]; rfl
    · rw [hcell b o (.inr (.inr (by omega)))]
      exact (hplace b o (hhas o h1 h2)).2.2.1
  by_cases hlo : lo < hi
  · have hbase : G.base ≤ b := (hplace b lo (hhas lo (Nat.le_refl _) hlo)).1
    have hbox : ∀ id c, m.get id = some c → G.box id ≠ b := (hplace b lo (hhas lo (Nat.le_refl _) hlo)).2.2.2.2
    have hlt : b < w.heap.size := by
      obtain ⟨u, hu⟩ := Option.isSome_iff_exists.1 (hplace b lo (hhas lo (Nat.le_refl _) hlo)).2.2.1
      exact World.block_lt_of_cell? w _ hu
    have hunset : ∀ o, lo ≤ o → o < hi → ¬ G.set b o := fun o h1 h2 => (hplace b o (hhas o h1 h2)).2.1
    -- the cells that are written are settled
    let G1 : Ghost := G.more b (fun o => lo ≤ o ∧ o < lo + k)
    have hE1 : Ext G w G1 (w.setCells b lo vs) :=
      ⟨rfl, Nat.le_refl _, fun _ _ => rfl, fun _ _ => rfl, Nat.le_refl _, fun _ _ => rfl, fun _ _ h => .inl h, fun b' o hs => hcell b' o (by
        by_cases hb : b' = b
        · subst hb
          by_cases h1 : o < lo
          · exact .inr (.inl h1)
          · by_cases h2 : lo + k ≤ o
            · exact .inr (.inr h2)
            · exact absurd hs (hunset o (by omega) (by omega))
        · exact .inl hb), hrow.below hbase⟩
    have hI1 : Inv G1 (m.kill t) (w.setCells b lo vs) := by
      refine ⟨hI.nb, (by show _ = G.nt; simpa [M.kill] using hI.nt), by rw [hrow.size]; exact hI.base, ?_, ?_, hI.inj, ?_, ?_, ?_, hI.layE hE1⟩
      · intro id c hc
        obtain ⟨o, a1, a2, a5⟩ := hI.box id c hc
        exact ⟨o, (hrow.other _ (hbox id c hc)).trans a1, a2.mono hE1, a5⟩
      · intro id c hc o ho
        rcases ho with ho | ⟨ho, _⟩
        · exact hI.boxset id c hc o ho
        · exact hbox id c hc ho
      · intro t' s' ht'
        obtain ⟨hne, ht'⟩ := M.alive_kill ht'
        obtain ⟨a1, a2⟩ := hI.tok t' s' ht'
        refine ⟨a1, fun b' o hb' => ?_⟩
        obtain ⟨d1, d2, d3, d4, d5⟩ := a2 b' o hb'
        have hout : b' ≠ b ∨ o < lo ∨ lo + k ≤ o := by
          by_cases hb : b' = b
          · subst hb
            refine .inr ?_
            by_cases h1 : o < lo
            · exact .inl h1
            · by_cases h2 : lo + k ≤ o
              · exact .inr h2
              · exact absurd hb' (hI.tokd t t' s s' ht ht' (Ne.symm hne) b' o (hhas o (by omega) (by omega)))
          · exact .inl hb
        refine ⟨d1, fun hs => ?_, by rw [hcell b' o hout]; exact d3, by rw [World.frozen?_setCells]; exact d4, d5⟩
        rcases hs with hs | ⟨hs, h2⟩
        · exact d2 hs
        · rcases hout with h | h | h
          · exact h hs
          · omega
          · omega
      · intro t1 t2 s1 s2 h1 h2
        exact hI.tokd t1 t2 s1 s2 (M.alive_kill h1).2 (M.alive_kill h2).2
      · intro b' o hs
        rw [hrow.size]
        rcases hs with hs | ⟨hs, _⟩
        · exact hI.set b' o hs
        · omega
    have hI2 := hI1.addTok ⟨b, lo + k, hi, s⟩ (fun b' o ho => by
      obtain ⟨rfl, h1, h2⟩ := ho
      simp only at h1 h2
      refine ⟨hbase, fun hs => ?_, hsome o (by omega) h2, by rw [World.frozen?_setCells]; exact (hplace b' o (hhas o (by omega) h2)).2.2.2.1, fun id c hc => hbox id c hc⟩
      rcases hs with hs | ⟨_, h3⟩
      · exact hunset o (by omega) h2 hs
      · omega) (fun t' s' ht' b' o ho hx => by
      obtain ⟨hne, ht'⟩ := M.alive_kill ht'
      obtain ⟨rfl, h1, h2⟩ := hx
      simp only at h1 h2
      exact hI.tokd t t' s s' ht ht' (Ne.symm hne) b' o (hhas o (by omega) h2) ho)
    refine ⟨_, hE1.trans (Ext.addTok _ _ _), hI2, rfl, if_pos rfl, fun o h1 h2 => .inr (.inr ⟨rfl, h1, h2⟩)⟩
  · have hk0 : k = 0 := by omega
    subst hk0
    obtain rfl : vs = [] := List.eq_nil_of_length_eq_zero hk
    have hI2 := (hI.kill t).addTok ⟨b, lo + 0, hi, s⟩ (fun b' o ho => by
      obtain ⟨_, h1, h2⟩ := ho
      simp only at h1 h2
      omega) (fun t' s' ht' b' o ho hx => by
      obtain ⟨_, h1, h2⟩ := hx
      simp only at h1 h2
      omega)
    exact ⟨_, Ext.addTok _ _ _, hI2, rfl, if_pos rfl, fun o h1 h2 => by omega⟩
end Go.Proofs.YtepjjgnkhcjpcaaDoor
