/-
 Texts that belong together: AbM, AbM2.
-/
-- halved
import Derived.Test.YthhhnfjcaicjnaaGreatDoorAbCore
set_option linter.unusedVariables false
namespace Go.Proofs.YthhhnfjcaicjnaaGreatDoor
open Go Go.RowKit

def laidC : List (Nat × (Value → Prop)) := [(0, fun v => v = .iface 181 (.agg #[.pointer (some ⟨1, 33, none⟩)]))]
def laidAt (w : World) (q : Nat × (Value → Prop)) : Prop := ∃ v, w.cell? ⟨q.1, 0, none⟩ = some v ∧ q.2 v
structure M where
 boxes : List (Option (List PV))
 toks : List (Option Nat)

def M.get (m : M) (id : Nat) : Option (List PV) := (m.boxes[id]?).join
def M.push (m : M) (c : List PV) : M := { m with boxes := m.boxes ++ [some c] }
def M.upd (m : M) (id : Nat) (c : List PV) : M := { m with boxes := m.boxes.set id (some c) }
def M.nb (m : M) : Nat := m.boxes.length
def M.alive (m : M) (t s : Nat) : Prop := m.toks[t]? = some (some s)
def M.kill (m : M) (t : Nat) : M := { m with toks := m.toks.set t none }
def M.fresh (m : M) (s : Nat) : M := { m with toks := m.toks ++ [some s] }
def M.nt (m : M) : Nat := m.toks.length

def Res.has (r : Res) (b o : Nat) : Prop := b = r.blk ∧ r.lo ≤ o ∧ o < r.hi

inductive BoxAt (G : Ghost) (w : World) : Bool → Obj → List PV → Prop
 | cells (c : List PV) (cs : List Value) (e : TypeId) (hl : c.length = cs.length) (hr : ∀ j (h1 : j < c.length) (h2 : j < cs.length), Rep G w c[j] cs[j]) (h1 : ∀ u ∈ cs, u.oneCell' = true) : BoxAt G w false (.cells cs.toArray e (0, 0)) c
 | map (ks : List ByteArray) (vs : List PV) (es : List MapEntry) (b0 : Nat) (tl : List PV) (ht : tl = [] ∨ tl = [.v (.int .i64 b0)]) (hb : es.map (·.born) = (List.range es.length).map (b0 + ·))
     (hk : es.map (·.key) = ks.map Value.string) (hl : vs.length = es.length) (hr : ∀ j (h1 : j < vs.length) (h2 : j < es.length), Rep G w vs[j] es[j].val) :
     BoxAt G w true (.map es.toArray (b0 + es.length)) (.tp (ks.map fun k => .v (.string k)) :: .tp vs :: tl)
 | iter (mid bm since st : Nat) (seen : List Nat) (tl : List PV) (ht : (seen = [] ∧ tl = []) ∨ tl = [.v (.int .i64 since)]) (hs : since = st) (hm : Rep G w (.mp mid) (.map (some bm))) :
     BoxAt G w true (.mapIter (some bm) since seen.toArray st) (.mp mid :: .tp (seen.map fun (n : Nat) => .v (.int .i64 n)) :: tl)
theorem BoxAt.imp {G G' : Ghost} {w w' : World} (h : ∀ x y, Rep G w x y → Rep G' w' x y) {k : Bool} {o : Obj} {c : List PV} (hb : BoxAt G w k o c) : BoxAt G' w' k o c := by
 cases hb with
 | cells _ cs e hl hr h1 => exact .cells c cs e hl (fun j a b => h _ _ (hr j a b)) h1
 | map ks vs es b0 tl ht hb hk hl hr => exact .map ks vs es b0 tl ht hb hk hl (fun j a b => h _ _ (hr j a b))
 | iter mid bm since st seen tl ht hs hm => exact .iter mid bm since st seen tl ht hs (h _ _ hm)
theorem BoxAt.mono {G G' : Ghost} {w w' : World} (e : Ext G w G' w') {k : Bool} {o : Obj} {c : List PV} (hb : BoxAt G w k o c) : BoxAt G' w' k o c := hb.imp fun _ _ h => h.mono e

structure Inv (G : Ghost) (m : M) (w : World) : Prop where
 nb : m.boxes.length = G.nb
 nt : m.toks.length = G.nt
 base : G.base ≤ w.heap.size
 box : ∀ id c, m.get id = some c → ∃ o, w.heap[G.box id]? = some o ∧ BoxAt G w (G.mp id) o c ∧ G.base ≤ G.box id
 boxset : ∀ id c, m.get id = some c → ∀ o, ¬ G.set (G.box id) o
 inj : ∀ id id' c c', m.get id = some c → m.get id' = some c' → G.box id = G.box id' → id = id'
 tok : ∀ t s, m.alive t s → (G.res t).sz = s ∧ ∀ b o, (G.res t).has b o → G.base ≤ b ∧ ¬ G.set b o ∧ (w.cell? ⟨b, o, none⟩).isSome = true ∧ w.frozen? ⟨b, o, none⟩ = false ∧ ∀ id c, m.get id = some c → G.box id ≠ b
 tokd : ∀ t t' s s', m.alive t s → m.alive t' s' → t ≠ t' → ∀ b o, (G.res t).has b o → ¬ (G.res t').has b o
 set : ∀ b o, G.set b o → b < w.heap.size
 lay : ∀ q ∈ laidC, laidAt w q ∧ q.1 < G.base

theorem Inv.layE {G G' : Ghost} {m : M} {w w' : World} (hI : Inv G m w) (hE : Ext G w G' w') : ∀ q ∈ laidC, laidAt w' q ∧ q.1 < G'.base := fun q hq => by
 obtain ⟨⟨v, h1, h3⟩, h2⟩ := hI.lay q hq
 exact ⟨⟨v, (hE.below.cell (p := ⟨q.1, 0, none⟩) h2).trans h1, h3⟩, by rw [hE.base]; exact h2⟩
theorem Inv.blt {G : Ghost} {m : M} {w : World} (hI : Inv G m w) {id : Nat} {c : List PV} (h : m.get id = some c) : G.box id < w.heap.size := by
 obtain ⟨o, h1, _⟩ := hI.box id c h
 exact (Array.getElem?_eq_some_iff.1 h1).1
theorem Inv.boxC {G : Ghost} {m : M} {w : World} (hI : Inv G m w) {id : Nat} {c : List PV} (h : m.get id = some c) (hm : G.mp id = false) : ∃ (cs : List Value) (e : TypeId), w.heap[G.box id]? = some (.cells cs.toArray e (0, 0)) ∧ c.length = cs.length ∧
    (∀ j (h1 : j < c.length) (h2 : j < cs.length), Rep G w c[j] cs[j]) ∧ (∀ u ∈ cs, u.oneCell' = true) ∧ G.base ≤ G.box id := by
 obtain ⟨o, h1, h2, h3⟩ := hI.box id c h
 rw [hm] at h2
 cases h2 with
 | cells _ cs e hl hr ho => exact ⟨cs, e, h1, hl, hr, ho, h3⟩
theorem M.get_lt {m : M} {id : Nat} {c : List PV} (h : m.get id = some c) : id < m.boxes.length := by
 unfold M.get at h
 rcases Nat.lt_or_ge id m.boxes.length with h' | h'
 ·exact h'
 ·simp [List.getElem?_eq_none h'] at h
theorem M.alive_lt {m : M} {t s : Nat} (h : m.alive t s) : t < m.toks.length := by
 unfold M.alive at h
 rcases Nat.lt_or_ge t m.toks.length with h' | h'
 ·exact h'
 ·simp [List.getElem?_eq_none h'] at h

structure Pushed (w w' : World) (o : Obj) : Prop where
 heap : w'.heap = w.heap.push o
 os : w'.os = w.os
 tape : w'.tape = w.tape
 output : w'.output = w.output

theorem Pushed.alloc (w : World) (o : Obj) : Pushed w (w.alloc o) o := ⟨rfl, rfl, rfl, rfl⟩
theorem Pushed.drew {w w' : World} {o : Obj} (h : Pushed w.drew w' o) : Pushed w w' o := ⟨h.heap, h.os, h.tape, h.output⟩
theorem Pushed.old {w w' : World} {o : Obj} (h : Pushed w w' o) {k : Nat} (hk : k < w.heap.size) : w'.heap[k]? = w.heap[k]? := by
 rw [h.heap, Array.getElem?_push, if_neg (by omega)]
theorem Pushed.new {w w' : World} {o : Obj} (h : Pushed w w' o) : w'.heap[w.heap.size]? = some o := by
 rw [h.heap, Array.getElem?_push, if_pos rfl]
theorem Pushed.cell {w w' : World} {o : Obj} (h : Pushed w w' o) {b k : Nat} (hk : b < w.heap.size) : w'.cell? ⟨b, k, none⟩ = w.cell? ⟨b, k, none⟩ := by
 simp only [World.cell?, h.old hk]
theorem Pushed.frozen {w w' : World} {o : Obj} (h : Pushed w w' o) {b k : Nat} (hk : b < w.heap.size) : w'.frozen? ⟨b, k, none⟩ = w.frozen? ⟨b, k, none⟩ := by
 simp only [World.frozen?, h.old hk]
theorem Pushed.cellNew {w w' : World} {cs : Array Value} {e : TypeId} (h : Pushed w w' (.cells cs e)) (k : Nat) : w'.cell? ⟨w.heap.size, k, none⟩ = cs[k]? := by
 simp [World.cell?, h.new]
theorem Pushed.size {w w' : World} {o : Obj} (h : Pushed w w' o) : w'.heap.size = w.heap.size + 1 := by rw [h.heap, Array.size_push]
theorem Pushed.below {w w' : World} {o : Obj} (h : Pushed w w' o) {B : Nat} (hB : B ≤ w.heap.size) : Below B w w' :=
 ⟨h.os, h.tape, h.output, by rw [h.size]; omega, fun k hk => h.old (by omega)⟩

def Ghost.more (G : Ghost) (b : Nat) (S : Nat → Prop) : Ghost := { G with set := fun b' o => G.set b' o ∨ (b' = b ∧ S o) }

theorem Inv.push {G : Ghost} {m : M} {w w' : World} {o : Obj} (hI : Inv G m w) (h : Pushed w w' o) (S : Nat → Prop) :
    Ext G w (G.more w.heap.size S) w' ∧ Inv (G.more w.heap.size S) m w' := by
 have hE : Ext G w (G.more w.heap.size S) w' :=
  ⟨rfl, Nat.le_refl _, fun _ _ => rfl, fun _ _ => rfl, Nat.le_refl _, fun _ _ => rfl, fun _ _ hs => .inl hs, fun b k hs => h.cell (hI.set b k hs), h.below hI.base⟩
 refine ⟨hE, ⟨hI.nb, hI.nt, ?_, ?_, ?_, hI.inj, ?_, hI.tokd, ?_, hI.layE hE⟩⟩
 ·show G.base ≤ _
  rw [h.size]; have := hI.base; omega
 ·intro id c hc
  obtain ⟨o, h1, h2, h5⟩ := hI.box id c hc
  exact ⟨o, (h.old (hI.blt hc)).trans h1, h2.mono hE, h5⟩
 ·intro id c hc k hk
  have hlt : G.box id < w.heap.size := hI.blt hc
  rcases hk with hk | ⟨hk, _⟩
  ·exact hI.boxset id c hc k hk
  ·have : G.box id = w.heap.size := hk
   omega
 ·intro t s ht
  obtain ⟨h1, h2⟩ := hI.tok t s ht
  refine ⟨h1, fun b k hb => ?_⟩
  obtain ⟨a1, a2, a3, a4, a5⟩ := h2 b k hb
  obtain ⟨u, hu⟩ := Option.isSome_iff_exists.1 a3
  have hlt : b < w.heap.size := World.block_lt_of_cell? w _ hu
  refine ⟨a1, fun hs => ?_, by rw [h.cell hlt]; exact a3, by rw [h.frozen hlt]; exact a4, a5⟩
  rcases hs with hs | ⟨hs, _⟩
  ·exact a2 hs
  ·omega
 ·intro b k hs
  rw [h.size]
  rcases hs with hs | ⟨hs, _⟩
  ·have := hI.set b k hs; omega
  ·omega

def Ghost.addBox (G : Ghost) (b : Nat) (k : Bool := false) : Ghost := { G with nb := G.nb + 1, box := fun id => if id = G.nb then b else G.box id, mp := fun id => if id = G.nb then k else G.mp id }
def Ghost.addTok (G : Ghost) (r : Res) : Ghost := { G with nt := G.nt + 1, res := fun t => if t = G.nt then r else G.res t }

theorem Ext.addBox (G : Ghost) (w : World) (b : Nat) (k : Bool := false) : Ext G w (G.addBox b k) w :=
 ⟨rfl, Nat.le_succ _, fun id hi => if_neg (Nat.ne_of_lt hi), fun id hi => if_neg (Nat.ne_of_lt hi), Nat.le_refl _, fun _ _ => rfl, fun _ _ h => h, fun _ _ _ => rfl, Below.refl _ _⟩
theorem Ext.addTok (G : Ghost) (w : World) (r : Res) : Ext G w (G.addTok r) w :=
 ⟨rfl, Nat.le_refl _, fun _ _ => rfl, fun _ _ => rfl, Nat.le_succ _, fun t ht => if_neg (Nat.ne_of_lt ht), fun _ _ h => h, fun _ _ _ => rfl, Below.refl _ _⟩

theorem M.get_push (m : M) (c : List PV) (id : Nat) : (m.push c).get id = if id = m.nb then some c else m.get id := by
 unfold M.get M.push M.nb
 rcases Nat.lt_trichotomy id m.boxes.length with h | h | h
 ·rw [if_neg (by omega), List.getElem?_append_left h]
 ·subst h; simp
 ·rw [if_neg (by omega), List.getElem?_eq_none (by simp; omega), List.getElem?_eq_none (by omega)]
theorem M.get_upd (m : M) (c : List PV) (id k : Nat) : (m.upd id c).get k = if k = id ∧ id < m.nb then some c else m.get k := by
 unfold M.get M.upd M.nb
 simp only [List.getElem?_set]
 by_cases h : id = k
 ·subst h
  by_cases h2 : id < m.boxes.length
  ·simp [h2]
  ·simp [h2]
 ·simp [h, Ne.symm h]

theorem Inv.addBoxG {G : Ghost} {m : M} {w : World} (hI : Inv G m w) (b : Nat) (c : List PV) (k : Bool) (o : Obj) (hb : w.heap[b]? = some o) (hba : BoxAt G w k o c) (hbase : G.base ≤ b) (hset : ∀ o, ¬ G.set b o)
    (hnew : ∀ id c, m.get id = some c → G.box id ≠ b) (htok : ∀ t s, m.alive t s → ∀ o, ¬ (G.res t).has b o) : Inv (G.addBox b k) (m.push c) w := by
 have hE := Ext.addBox G w b k
 have hgt : ∀ id c', m.get id = some c' → (G.addBox b k).box id = G.box id := fun id c' h => hE.box id (hI.nb ▸ M.get_lt h)
 have hnb : m.nb = G.nb := hI.nb
 have hgm : ∀ id c', m.get id = some c' → (G.addBox b k).mp id = G.mp id := fun id c' h => hE.mp id (hI.nb ▸ M.get_lt h)
 have hcase : ∀ id c', (m.push c).get id = some c' → (id = G.nb ∧ c' = c) ∨ m.get id = some c' := fun id c' h => by
  rw [M.get_push] at h
  split at h
  ·exact .inl ⟨by omega, (Option.some.inj h).symm⟩
  ·exact .inr h
 refine ⟨?_, hI.nt, hI.base, ?_, ?_, ?_, ?_, hI.tokd, hI.set, hI.lay⟩
 ·show (m.boxes ++ [some c]).length = G.nb + 1
  simp [hI.nb]
 ·intro id c' h
  rcases hcase id c' h with ⟨rfl, rfl⟩ | h
  ·exact ⟨o, by simpa [Ghost.addBox] using hb, by simpa [Ghost.addBox] using hba.mono hE, by simpa [Ghost.addBox] using hbase⟩
  ·obtain ⟨o', a1, a2, a5⟩ := hI.box id c' h
   rw [hgt id c' h, hgm id c' h]
   exact ⟨o', a1, a2.mono hE, a5⟩
 ·intro id c' h
  rcases hcase id c' h with ⟨rfl, rfl⟩ | h
  ·simpa [Ghost.addBox] using hset
  ·rw [hgt id c' h]; exact hI.boxset id c' h
 ·intro id id' c' c'' h h' heq
  rcases hcase id c' h with ⟨k1, k2⟩ | k <;> rcases hcase id' c'' h' with ⟨k1', k2'⟩ | k'
  ·rw [k1, k1']
  ·rw [hgt id' c'' k', k1] at heq
   simp only [Ghost.addBox, if_true] at heq
   exact absurd heq.symm (hnew id' c'' k')
  ·rw [hgt id c' k, k1'] at heq
   simp only [Ghost.addBox, if_true] at heq
   exact absurd heq (hnew id c' k)
  ·rw [hgt id c' k, hgt id' c'' k'] at heq
   exact hI.inj id id' c' c'' k k' heq
 ·intro t s ht
  obtain ⟨a1, a2⟩ := hI.tok t s ht
  refine ⟨a1, fun b' o hb' => ?_⟩
  obtain ⟨d1, d2, d3, d4, d5⟩ := a2 b' o hb'
  refine ⟨d1, d2, d3, d4, fun id c' h => ?_⟩
  rcases hcase id c' h with ⟨rfl, rfl⟩ | h
  ·simp only [Ghost.addBox, if_true]
   intro hbb
   subst hbb
   exact htok t s ht o hb'
  ·rw [hgt id c' h]; exact d5 id c' h

theorem Inv.addBox {G : Ghost} {m : M} {w : World} (hI : Inv G m w) (b : Nat) (c : List PV) (cs : List Value) (e : TypeId) (hb : w.heap[b]? = some (.cells cs.toArray e (0, 0))) (hl : c.length = cs.length)
    (hr : ∀ j (h1 : j < c.length) (h2 : j < cs.length), Rep G w c[j] cs[j]) (h1 : ∀ u ∈ cs, u.oneCell' = true) (hbase : G.base ≤ b) (hset : ∀ o, ¬ G.set b o)
    (hnew : ∀ id c, m.get id = some c → G.box id ≠ b) (htok : ∀ t s, m.alive t s → ∀ o, ¬ (G.res t).has b o) : Inv (G.addBox b) (m.push c) w :=
 hI.addBoxG b c false _ hb (.cells c cs e hl hr h1) hbase hset hnew htok

theorem M.alive_kill {m : M} {t t' s : Nat} (h : (m.kill t).alive t' s) : t' ≠ t ∧ m.alive t' s := by
 unfold M.alive M.kill at *
 simp only [List.getElem?_set] at h
 by_cases ht : t = t'
 ·subst ht
  by_cases h2 : t < m.toks.length
  ·simp [h2] at h
  ·simp [h2] at h
 ·rw [if_neg ht] at h; exact ⟨Ne.symm ht, h⟩
theorem Inv.kill {G : Ghost} {m : M} {w : World} (hI : Inv G m w) (t : Nat) : Inv G (m.kill t) w :=
 ⟨hI.nb, by simpa [M.kill] using hI.nt, hI.base, hI.box, hI.boxset, hI.inj, fun t' s h => hI.tok t' s (M.alive_kill h).2,
  fun t1 t2 s1 s2 h1 h2 => hI.tokd t1 t2 s1 s2 (M.alive_kill h1).2 (M.alive_kill h2).2, hI.set, hI.lay⟩
theorem M.alive_fresh {m : M} {t s s' : Nat} (h : (m.fresh s).alive t s') : (t = m.nt ∧ s' = s) ∨ m.alive t s' := by
 unfold M.alive M.fresh M.nt at *
 rcases Nat.lt_trichotomy t m.toks.length with h1 | h1 | h1
 ·rw [List.getElem?_append_left h1] at h; exact .inr h
 ·subst h1; simp at h; exact .inl ⟨rfl, h.symm⟩
 ·simp only [] at h
  rw [List.getElem?_eq_none (by simp; omega)] at h; cases h

theorem Inv.addTok {G : Ghost} {m : M} {w : World} (hI : Inv G m w) (r : Res)
    (hr : ∀ b o, r.has b o → G.base ≤ b ∧ ¬ G.set b o ∧ (w.cell? ⟨b, o, none⟩).isSome = true ∧ w.frozen? ⟨b, o, none⟩ = false ∧ ∀ id c, m.get id = some c → G.box id ≠ b)
    (hd : ∀ t s, m.alive t s → ∀ b o, (G.res t).has b o → ¬ r.has b o) : Inv (G.addTok r) (m.fresh r.sz) w := by
 have hE := Ext.addTok G w r
 have hnt : m.nt = G.nt := hI.nt
 have hold : ∀ t s, m.alive t s → (G.addTok r).res t = G.res t := fun t s h => hE.res t (hI.nt ▸ M.alive_lt h)
 refine ⟨hI.nb, ?_, hI.base, ?_, hI.boxset, hI.inj, ?_, ?_, hI.set, hI.lay⟩
 ·show (m.toks ++ [some r.sz]).length = G.nt + 1
  simp [hI.nt]
 ·intro id c h
  obtain ⟨o, a1, a2, a5⟩ := hI.box id c h
  exact ⟨o, a1, a2.mono hE, a5⟩
 ·intro t s h
  rcases M.alive_fresh h with ⟨rfl, rfl⟩ | h
  ·rw [show (G.addTok r).res m.nt = r from if_pos hnt]; exact ⟨rfl, hr⟩
  ·rw [hold t s h]; exact hI.tok t s h
 ·intro t t' s s' h h' hne b o hb
  rcases M.alive_fresh h with ⟨rfl, rfl⟩ | h <;> rcases M.alive_fresh h' with ⟨rfl, rfl⟩ | h'
  ·exact absurd rfl hne
  ·rw [hold t' s' h']
   simp only [Ghost.addTok, hnt, if_true] at hb
   exact fun hx => hd t' s' h' b o hx hb
  ·rw [hold t s h] at hb
   simp only [Ghost.addTok, hnt, if_true]
   exact hd t s h b o hb
  ·rw [hold t s h] at hb
   rw [hold t' s' h']
   exact hI.tokd t t' s s' h h' hne b o hb

structure Rowed (w w' : World) (g : Nat) : Prop where
 other : ∀ k, k ≠ g → w'.heap[k]? = w.heap[k]?
 size : w'.heap.size = w.heap.size
 os : w'.os = w.os
 tape : w'.tape = w.tape
 output : w'.output = w.output

theorem Rowed.setRow (w : World) (g : Nat) (cs : Array Value) : Rowed w (w.setRow g cs) g :=
 ⟨fun k hk => setRow_other w g k cs hk, setRow_size w g cs, rfl, rfl, rfl⟩
theorem Rowed.below {w w' : World} {g B : Nat} (h : Rowed w w' g) (hB : B ≤ g) : Below B w w' :=
 ⟨h.os, h.tape, h.output, Nat.le_of_eq h.size.symm, fun k hk => h.other k (by omega)⟩
theorem Rowed.cell {w w' : World} {g : Nat} (h : Rowed w w' g) {b k : Nat} (hk : b ≠ g) : w'.cell? ⟨b, k, none⟩ = w.cell? ⟨b, k, none⟩ := by
 simp only [World.cell?, h.other b hk]
theorem Rowed.frozen {w w' : World} {g : Nat} (h : Rowed w w' g) {b k : Nat} (hk : b ≠ g) : w'.frozen? ⟨b, k, none⟩ = w.frozen? ⟨b, k, none⟩ := by
 simp only [World.frozen?, h.other b hk]

theorem setCells_rowed (b : Nat) : ∀ (vs : List Value) (o : Nat) (w : World), Rowed w (w.setCells b o vs) b
 | [], _, w => ⟨fun _ _ => rfl, rfl, rfl, rfl, rfl⟩
 | v :: r, o, w => by
  have ih := setCells_rowed b r (o + 1) (w.setCell ⟨b, o, none⟩ v)
  refine ⟨fun k hk => (ih.other k hk).trans (Below.heap_setCell w _ _ _ hk), ih.size.trans (World.size_setCell w _ _), ih.os, ih.tape, ih.output⟩

theorem Inv.storeG {G : Ghost} {m : M} {w w' : World} (hI : Inv G m w) {id : Nat} {c c' : List PV} (hid : m.get id = some c) (h : Rowed w w' (G.box id)) (o : Obj)
    (hb : w'.heap[G.box id]? = some o) (hba : BoxAt G w (G.mp id) o c') : Ext G w G w' ∧ Inv G (m.upd id c') w' := by
 obtain ⟨_, _, _, hbase⟩ := hI.box id c hid
 have hne : ∀ b o, G.set b o → b ≠ G.box id := fun b o hs he => hI.boxset id c hid o (he ▸ hs)
 have hE : Ext G w G w' := ⟨rfl, Nat.le_refl _, fun _ _ => rfl, fun _ _ => rfl, Nat.le_refl _, fun _ _ => rfl, fun _ _ h => h, fun b o hs => h.cell (hne b o hs), h.below hbase⟩
 have hlt : id < m.nb := M.get_lt hid
 have hcase : ∀ k d, (m.upd id c').get k = some d → (k = id ∧ d = c') ∨ (k ≠ id ∧ m.get k = some d) := fun k d hk => by
  rw [M.get_upd] at hk
  split at hk
  ·rename_i hh; exact .inl ⟨hh.1, (Option.some.inj hk).symm⟩
  ·rename_i hh; exact .inr ⟨fun he => hh ⟨he, hlt⟩, hk⟩
 have hhad : ∀ k d, (m.upd id c').get k = some d → ∃ d', m.get k = some d' := fun k d hk => by
  rcases hcase k d hk with ⟨rfl, rfl⟩ | ⟨_, hk⟩
  ·exact ⟨c, hid⟩
  ·exact ⟨d, hk⟩
 refine ⟨hE, ⟨?_, hI.nt, ?_, ?_, ?_, ?_, ?_, hI.tokd, ?_, hI.layE hE⟩⟩
 ·simpa [M.upd] using hI.nb
 ·rw [h.size]; exact hI.base
 ·intro k d hk
  rcases hcase k d hk with ⟨rfl, rfl⟩ | ⟨hne', hk⟩
  ·exact ⟨o, hb, hba.mono hE, hbase⟩
  ·obtain ⟨o1, a1, a2, a5⟩ := hI.box k d hk
   exact ⟨o1, (h.other _ fun he => hne' (hI.inj k id d c hk hid he)).trans a1, a2.mono hE, a5⟩
 ·intro k d hk
  obtain ⟨d', hk'⟩ := hhad k d hk
  exact hI.boxset k d' hk'
 ·intro k k' d d' hk hk' heq
  obtain ⟨e1, hk1⟩ := hhad k d hk
  obtain ⟨e2, hk2⟩ := hhad k' d' hk'
  exact hI.inj k k' e1 e2 hk1 hk2 heq
 ·intro t s ht
  obtain ⟨a1, a2⟩ := hI.tok t s ht
  refine ⟨a1, fun b o hbo => ?_⟩
  obtain ⟨d1, d2, d3, d4, d5⟩ := a2 b o hbo
  have hnb : b ≠ G.box id := fun he => d5 id c hid he.symm
  refine ⟨d1, d2, by rw [h.cell hnb]; exact d3, by rw [h.frozen hnb]; exact d4, fun k d hk => ?_⟩
  obtain ⟨d', hk'⟩ := hhad k d hk
  exact d5 k d' hk'
 ·intro b o hs
  rw [h.size]; exact hI.set b o hs

theorem Inv.store {G : Ghost} {m : M} {w w' : World} (hI : Inv G m w) {id : Nat} {c c' : List PV} (hid : m.get id = some c) (hm : G.mp id = false) (h : Rowed w w' (G.box id)) (cs' : List Value) (e : TypeId)
    (hb : w'.heap[G.box id]? = some (.cells cs'.toArray e (0, 0))) (hl : c'.length = cs'.length)
    (hr : ∀ j (h1 : j < c'.length) (h2 : j < cs'.length), Rep G w c'[j] cs'[j]) (h1 : ∀ u ∈ cs', u.oneCell' = true) : Ext G w G w' ∧ Inv G (m.upd id c') w' :=
 hI.storeG hid h _ hb (by rw [hm]; exact .cells c' cs' e hl hr h1)

theorem Inv.room {G : Ghost} {m : M} {w : World} (hI : Inv G m w) {t s b lo hi : Nat} (ht : m.alive t s) (hres : G.res t = ⟨b, lo, hi, s⟩) (vs : List Value) (k : Nat) (hk : vs.length = k) (hfit : lo + k ≤ hi) :
    ∃ G', Ext G w G' (w.setCells b lo vs) ∧ Inv G' ((m.kill t).fresh s) (w.setCells b lo vs) ∧ G'.nt = G.nt + 1 ∧ G'.res G.nt = ⟨b, lo + k, hi, s⟩ ∧ (∀ o, lo ≤ o → o < lo + k → G'.settled b o) := by
 obtain ⟨_, hplace⟩ := hI.tok t s ht
 have hhas : ∀ o, lo ≤ o → o < hi → (G.res t).has b o := fun o h1 h2 => by rw [hres]; exact ⟨rfl, h1, h2⟩
 have hrow := setCells_rowed b vs lo w
 have hcell : ∀ b' o, (b' ≠ b ∨ o < lo ∨ lo + k ≤ o) → (w.setCells b lo vs).cell? ⟨b', o, none⟩ = w.cell? ⟨b', o, none⟩ := fun b' o h =>
  World.cell?_setCells_out b vs lo w ⟨b', o, none⟩ (fun he _ => by
   have he' : b' = b := he
   have : o < lo ∨ lo + k ≤ o := h.resolve_left (fun hn => hn he')
   simpa [hk] using this)
 have hsome : ∀ o, lo ≤ o → o < hi → ((w.setCells b lo vs).cell? ⟨b, o, none⟩).isSome = true := fun o h1 h2 => by
  by_cases hin : o < lo + k
  ·have := World.cell?_setCells_in b vs lo w (fun j hj => (hplace b (lo + j) (hhas _ (by omega) (by omega))).2.2.1) (o - lo) (by omega)
   rw [show lo + (o - lo) = o by omega] at this
   rw [this]; rfl
  ·rw [hcell b o (.inr (.inr (by omega)))]
   exact (hplace b o (hhas o h1 h2)).2.2.1
 by_cases hlo : lo < hi
 ·have hbase : G.base ≤ b := (hplace b lo (hhas lo (Nat.le_refl _) hlo)).1
  have hbox : ∀ id c, m.get id = some c → G.box id ≠ b := (hplace b lo (hhas lo (Nat.le_refl _) hlo)).2.2.2.2
  have hlt : b < w.heap.size := by
   obtain ⟨u, hu⟩ := Option.isSome_iff_exists.1 (hplace b lo (hhas lo (Nat.le_refl _) hlo)).2.2.1
   exact World.block_lt_of_cell? w _ hu
  have hunset : ∀ o, lo ≤ o → o < hi → ¬ G.set b o := fun o h1 h2 => (hplace b o (hhas o h1 h2)).2.1
  let G1 : Ghost := G.more b (fun o => lo ≤ o ∧ o < lo + k)
  have hE1 : Ext G w G1 (w.setCells b lo vs) :=
   ⟨rfl, Nat.le_refl _, fun _ _ => rfl, fun _ _ => rfl, Nat.le_refl _, fun _ _ => rfl, fun _ _ h => .inl h, fun b' o hs => hcell b' o (by
    by_cases hb : b' = b
    ·subst hb
     by_cases h1 : o < lo
     ·exact .inr (.inl h1)
     ·by_cases h2 : lo + k ≤ o
      ·exact .inr (.inr h2)
      ·exact absurd hs (hunset o (by omega) (by omega))
    ·exact .inl hb), hrow.below hbase⟩
  have hI1 : Inv G1 (m.kill t) (w.setCells b lo vs) := by
   refine ⟨hI.nb, (by show _ = G.nt; simpa [M.kill] using hI.nt), by rw [hrow.size]; exact hI.base, ?_, ?_, hI.inj, ?_, ?_, ?_, hI.layE hE1⟩
   ·intro id c hc
    obtain ⟨o, a1, a2, a5⟩ := hI.box id c hc
    exact ⟨o, (hrow.other _ (hbox id c hc)).trans a1, a2.mono hE1, a5⟩
   ·intro id c hc o ho
    rcases ho with ho | ⟨ho, _⟩
    ·exact hI.boxset id c hc o ho
    ·exact hbox id c hc ho
   ·intro t' s' ht'
    obtain ⟨hne, ht'⟩ := M.alive_kill ht'
    obtain ⟨a1, a2⟩ := hI.tok t' s' ht'
    refine ⟨a1, fun b' o hb' => ?_⟩
    obtain ⟨d1, d2, d3, d4, d5⟩ := a2 b' o hb'
    have hout : b' ≠ b ∨ o < lo ∨ lo + k ≤ o := by
     by_cases hb : b' = b
     ·subst hb
      refine .inr ?_
      by_cases h1 : o < lo
      ·exact .inl h1
      ·by_cases h2 : lo + k ≤ o
       ·exact .inr h2
       ·exact absurd hb' (hI.tokd t t' s s' ht ht' (Ne.symm hne) b' o (hhas o (by omega) (by omega)))
     ·exact .inl hb
    refine ⟨d1, fun hs => ?_, by rw [hcell b' o hout]; exact d3, by rw [World.frozen?_setCells]; exact d4, d5⟩
    rcases hs with hs | ⟨hs, h2⟩
    ·exact d2 hs
    ·rcases hout with h | h | h
     ·exact h hs
     ·omega
     ·omega
   ·intro t1 t2 s1 s2 h1 h2
    exact hI.tokd t1 t2 s1 s2 (M.alive_kill h1).2 (M.alive_kill h2).2
   ·intro b' o hs
    rw [hrow.size]
    rcases hs with hs | ⟨hs, _⟩
    ·exact hI.set b' o hs
    ·omega
  have hI2 := hI1.addTok ⟨b, lo + k, hi, s⟩ (fun b' o ho => by
   obtain ⟨rfl, h1, h2⟩ := ho
   simp only at h1 h2
   refine ⟨hbase, fun hs => ?_, hsome o (by omega) h2, by rw [World.frozen?_setCells]; exact (hplace b' o (hhas o (by omega) h2)).2.2.2.1, fun id c hc => hbox id c hc⟩
   rcases hs with hs | ⟨_, h3⟩
   ·exact hunset o (by omega) h2 hs
   ·omega) (fun t' s' ht' b' o ho hx => by
   obtain ⟨hne, ht'⟩ := M.alive_kill ht'
   obtain ⟨rfl, h1, h2⟩ := hx
   simp only at h1 h2
   exact hI.tokd t t' s s' ht ht' (Ne.symm hne) b' o (hhas o (by omega) h2) ho)
  refine ⟨_, hE1.trans (Ext.addTok _ _ _), hI2, rfl, if_pos rfl, fun o h1 h2 => .inr (.inr ⟨rfl, h1, h2⟩)⟩
 ·have hk0 : k = 0 := by omega
  subst hk0
  obtain rfl : vs = [] := List.eq_nil_of_length_eq_zero hk
  have hI2 := (hI.kill t).addTok ⟨b, lo + 0, hi, s⟩ (fun b' o ho => by
   obtain ⟨_, h1, h2⟩ := ho
   simp only at h1 h2
   omega) (fun t' s' ht' b' o ho hx => by
   obtain ⟨_, h1, h2⟩ := hx
   simp only at h1 h2
   omega)
  exact ⟨_, Ext.addTok _ _ _, hI2, rfl, if_pos rfl, fun o h1 h2 => by omega⟩
end Go.Proofs.YthhhnfjcaicjnaaGreatDoor
