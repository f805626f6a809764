/-
 Values without addresses, and how the model's values read as them: what is settled never turns again.
-/
-- halved
import Derived.Below
import Derived.Deep.AppendSrc
import Derived.Deep.Upon
set_option linter.unusedVariables false
namespace Go.Proofs.YthhhnfjcaicjnaaGreatDoor
open Go Go.RowKit

inductive Own where
 | no
 | full
 | tok (t : Nat)
 deriving DecidableEq

inductive PV where
 | v (x : Value)
 | junk
 | sl (o : Own) (xs : List PV)
 | ag (xs : List PV)
 | tp (xs : List PV)
 | bp (id off : Nat)
 | mp (id : Nat)
 | it (id : Nat)
 | bs (id off len : Nat)
 | gs (id len cap : Nat)
 | ep (xs : List PV)
 | fn (f : Fn) (first cap : List PV)
 | ifc (t : TypeId) (x : PV)

instance : Inhabited PV := ⟨.junk⟩

def PV.cells : PV → List PV
 | .ag xs => xs
 | x => [x]

def atom : Value → Bool
 | .bool _ | .int _ _ | .float _ _ | .complex _ _ _ | .string _ | .pointer none | .nilFunc | .nilIface | .map none | .chan none => true
 | _ => false

mutual
def PV.pure : PV → Bool
 | .v _ | .junk | .ep _ => true
 | .sl o _ => o == .no
 | .ag xs => PV.pures xs
 | .tp xs => PV.pures xs
 | .bp _ _ | .bs _ _ _ | .gs _ _ _ | .mp _ | .it _ => false
 | .fn _ a b => PV.pures a && PV.pures b
 | .ifc _ x => x.pure
def PV.pures : List PV → Bool
 | [] => true
 | x :: l => x.pure && PV.pures l
end
mutual
def PV.settle : PV → PV
 | .sl _ xs => .sl .no xs
 | .ag xs => .ag (PV.settles xs)
 | .tp xs => .tp (PV.settles xs)
 | .ifc t x => .ifc t x.settle
 | .fn f a b => .fn f (PV.settles a) (PV.settles b)
 | .v x => .v x
 | .junk => .junk
 | .ep xs => .ep xs
 | .bp i o => .bp i o
 | .mp i => .mp i
 | .it i => .it i
 | .bs i o l => .bs i o l
 | .gs i l c => .gs i l c
def PV.settles : List PV → List PV
 | [] => []
 | x :: l => x.settle :: PV.settles l
end
theorem settles_eq (l : List PV) : PV.settles l = l.map PV.settle := by
 induction l with
 | nil => rfl
 | cons x l ih => simp [PV.settles, ih]
theorem pures_iff (l : List PV) : PV.pures l = true ↔ ∀ x ∈ l, x.pure = true := by
 induction l with
 | nil => simp [PV.pures]
 | cons x l ih => simp [PV.pures, ih]

def PV.one : PV → Bool
 | .ag _ | .tp _ | .junk => false
 | _ => true
def PV.ok (x : PV) : Bool := x.pure && x.cells.all PV.one

structure Res where
 blk : Nat
 lo : Nat
 hi : Nat
 sz : Nat

structure Ghost where
 base : Nat
 nb : Nat
 box : Nat → Nat
 nt : Nat
 res : Nat → Res
 set : Nat → Nat → Prop
 mp : Nat → Bool

def Ghost.settled (G : Ghost) (b o : Nat) : Prop := b < G.base ∨ G.set b o

inductive Rep (G : Ghost) (w : World) : PV → Value → Prop
 | v {x : Value} (h : atom x = true) : Rep G w (.v x) x
 | junk (x : Value) : Rep G w .junk x
 | snil (o : Own) (ao : Option Addr) (ho : ∀ t, o = .tok t → t < G.nt ∧ ¬ (G.res t).lo < (G.res t).hi) : Rep G w (.sl o []) (.slice ao 0 0)
 | sl (o : Own) (xs : List PV) (b off cap sz : Nat) (c : Nat → Value)
     (hlen : ∀ i (h : i < xs.length), (xs[i].cells).length = sz)
     (hc : ∀ k, k < xs.length * sz → w.cell? ⟨b, off + k, none⟩ = some (c k) ∧ G.settled b (off + k))
     (hp : ∀ i (h : i < xs.length), xs[i].ok = true)
     (hr : ∀ i (h : i < xs.length) j (hj : j < xs[i].cells.length), Rep G w (xs[i].cells[j]) (c (i * sz + j)))
     (hcap : xs.length ≤ cap) (hmax : cap ≤ maxLen)
     (hfull : o = .full → cap = xs.length)
     (htok : ∀ t, o = .tok t → t < G.nt ∧ G.res t = ⟨b, off + xs.length * sz, off + cap * sz, sz⟩) :
     Rep G w (.sl o xs) (.slice (some ⟨b, off, none⟩) xs.length cap)
 | ag (xs : List PV) (cs : List Value) (hl : xs.length = cs.length)
     (h : ∀ j (h1 : j < xs.length) (h2 : j < cs.length), Rep G w xs[j] cs[j]) (h1 : ∀ u ∈ cs, u.oneCell' = true) : Rep G w (.ag xs) (.agg cs.toArray)
 | tp (xs : List PV) (cs : List Value) (hl : xs.length = cs.length)
     (h : ∀ j (h1 : j < xs.length) (h2 : j < cs.length), Rep G w xs[j] cs[j]) : Rep G w (.tp xs) (.tuple cs.toArray)
 | mp (id : Nat) (h : id < G.nb) (hm : G.mp id = true) : Rep G w (.mp id) (.map (some (G.box id)))
 | it (id : Nat) (h : id < G.nb) (hm : G.mp id = true) : Rep G w (.it id) (.pointer (some ⟨G.box id, 0, none⟩))
 | bp (id off : Nat) (h : id < G.nb) (hm : G.mp id = false) : Rep G w (.bp id off) (.pointer (some ⟨G.box id, off, none⟩))
 | bs (id off len cap : Nat) (h : id < G.nb) (hm : G.mp id = false) (hcap : len ≤ cap) (hmax : cap ≤ maxLen) : Rep G w (.bs id off len) (.slice (some ⟨G.box id, off, none⟩) len cap)
 | gs (id len cap : Nat) (h : id < G.nb) (hm : G.mp id = false) (hcap : len ≤ cap) (hmax : cap ≤ maxLen) : Rep G w (.gs id len cap) (.slice (some ⟨G.box id, 0, none⟩) len cap)
 | ep (xs : List PV) (b off : Nat) (c : Nat → Value)
     (hc : ∀ k, k < xs.length → w.cell? ⟨b, off + k, none⟩ = some (c k) ∧ G.settled b (off + k))
     (hp : ∀ i (h : i < xs.length), xs[i].pure = true ∧ xs[i].one = true)
     (hr : ∀ i (h : i < xs.length), Rep G w xs[i] (c i)) : Rep G w (.ep xs) (.pointer (some ⟨b, off, none⟩))
 | fn (f : Fn) (a b : List PV) (a' b' : List Value) (ha : a.length = a'.length) (hb : b.length = b'.length)
     (h1 : ∀ j (h1 : j < a.length) (h2 : j < a'.length), Rep G w a[j] a'[j]) (h2 : ∀ j (h1 : j < b.length) (h2 : j < b'.length), Rep G w b[j] b'[j]) :
     Rep G w (.fn f a b) (.func f a'.toArray b'.toArray)
 | ifc (t : TypeId) (x : PV) (y : Value) (h : Rep G w x y) : Rep G w (.ifc t x) (.iface t y)

structure Ext (G : Ghost) (w : World) (G' : Ghost) (w' : World) : Prop where
 base : G'.base = G.base
 nb : G.nb ≤ G'.nb
 box : ∀ id, id < G.nb → G'.box id = G.box id
 mp : ∀ id, id < G.nb → G'.mp id = G.mp id
 nt : G.nt ≤ G'.nt
 res : ∀ t, t < G.nt → G'.res t = G.res t
 set : ∀ b o, G.set b o → G'.set b o
 cell : ∀ b o, G.set b o → w'.cell? ⟨b, o, none⟩ = w.cell? ⟨b, o, none⟩
 below : Below G.base w w'

theorem Ext.refl (G : Ghost) (w : World) : Ext G w G w :=
 ⟨rfl, Nat.le_refl _, fun _ _ => rfl, fun _ _ => rfl, Nat.le_refl _, fun _ _ => rfl, fun _ _ h => h, fun _ _ _ => rfl, Below.refl _ _⟩
theorem Ext.trans {G G1 G2 : Ghost} {w w1 w2 : World} (h : Ext G w G1 w1) (k : Ext G1 w1 G2 w2) : Ext G w G2 w2 where
 base := k.base.trans h.base
 nb := Nat.le_trans h.nb k.nb
 box := fun id hi => (k.box id (Nat.lt_of_lt_of_le hi h.nb)).trans (h.box id hi)
 mp := fun id hi => (k.mp id (Nat.lt_of_lt_of_le hi h.nb)).trans (h.mp id hi)
 nt := Nat.le_trans h.nt k.nt
 res := fun t ht => (k.res t (Nat.lt_of_lt_of_le ht h.nt)).trans (h.res t ht)
 set := fun b o hs => k.set b o (h.set b o hs)
 cell := fun b o hs => (k.cell b o (h.set b o hs)).trans (h.cell b o hs)
 below := h.below.trans (h.base ▸ k.below)
theorem Ext.settled {G G' : Ghost} {w w' : World} (h : Ext G w G' w') {b o : Nat} (hs : G.settled b o) : G'.settled b o :=
 hs.elim (fun x => .inl (h.base ▸ x)) (fun x => .inr (h.set b o x))
theorem Ext.scell {G G' : Ghost} {w w' : World} (h : Ext G w G' w') {b o : Nat} (hs : G.settled b o) : w'.cell? ⟨b, o, none⟩ = w.cell? ⟨b, o, none⟩ :=
 hs.elim (fun x => h.below.cell (p := ⟨b, o, none⟩) x) (fun x => h.cell b o x)

theorem Rep.mono {G G' : Ghost} {w w' : World} (e : Ext G w G' w') {x : PV} {y : Value} (h : Rep G w x y) : Rep G' w' x y := by
 induction h with
 | v h => exact .v h
 | junk x => exact .junk x
 | snil o ao ho =>
  refine .snil o ao fun t ht => ?_
  obtain ⟨h1, h2⟩ := ho t ht
  exact ⟨Nat.lt_of_lt_of_le h1 e.nt, by rw [e.res t h1]; exact h2⟩
 | sl o xs b off cap sz c hlen hc hp hr hcap hmax hfull htok ih =>
  refine .sl o xs b off cap sz c hlen (fun k hk => ?_) hp ih hcap hmax hfull fun t ht => ?_
  ·obtain ⟨h1, h2⟩ := hc k hk
   exact ⟨(e.scell h2).trans h1, e.settled h2⟩
  ·obtain ⟨h1, h2⟩ := htok t ht
   exact ⟨Nat.lt_of_lt_of_le h1 e.nt, (e.res t h1).trans h2⟩
 | ag xs cs hl h h1 ih => exact .ag xs cs hl ih h1
 | tp xs cs hl h ih => exact .tp xs cs hl ih
 | mp id h hm =>
  have := Rep.mp (G := G') (w := w') id (Nat.lt_of_lt_of_le h e.nb) ((e.mp id h).trans hm)
  rwa [e.box id h] at this
 | it id h hm =>
  have := Rep.it (G := G') (w := w') id (Nat.lt_of_lt_of_le h e.nb) ((e.mp id h).trans hm)
  rwa [e.box id h] at this
 | bp id off h hm =>
  have := Rep.bp (G := G') (w := w') id off (Nat.lt_of_lt_of_le h e.nb) ((e.mp id h).trans hm)
  rwa [e.box id h] at this
 | bs id off len cap h hm hcap hmax =>
  have := Rep.bs (G := G') (w := w') id off len cap (Nat.lt_of_lt_of_le h e.nb) ((e.mp id h).trans hm) hcap hmax
  rwa [e.box id h] at this
 | gs id len cap h hm hcap hmax =>
  have := Rep.gs (G := G') (w := w') id len cap (Nat.lt_of_lt_of_le h e.nb) ((e.mp id h).trans hm) hcap hmax
  rwa [e.box id h] at this
 | ep xs b off c hc hp hr ih =>
  refine .ep xs b off c (fun k hk => ?_) hp ih
  obtain ⟨h1, h2⟩ := hc k hk
  exact ⟨(e.scell h2).trans h1, e.settled h2⟩
 | fn f a b a' b' ha hb h1 h2 ih1 ih2 => exact .fn f a b a' b' ha hb ih1 ih2
 | ifc t x y h ih => exact .ifc t x y ih

theorem Rep.pure_mono {G G' : Ghost} {w w' : World} (hs : ∀ b o, G.settled b o → G'.settled b o) (hc : ∀ b o, G.settled b o → w'.cell? ⟨b, o, none⟩ = w.cell? ⟨b, o, none⟩)
    {x : PV} {y : Value} (h : Rep G w x y) (hp : x.pure = true) : Rep G' w' x y := by
 induction h with
 | v h => exact .v h
 | junk x => exact .junk x
 | snil o ao ho =>
  simp only [PV.pure, beq_iff_eq] at hp
  subst hp
  exact .snil _ _ (fun t ht => by cases ht)
 | sl o xs b off cap sz c hlen hcc hpp hr hcap hmax hfull htok ih =>
  simp only [PV.pure, beq_iff_eq] at hp
  subst hp
  refine .sl _ xs b off cap sz c hlen (fun k hk => ?_) hpp (fun i hi j hj => ih i hi j hj ?_) hcap hmax hfull (fun t ht => by cases ht)
  ·obtain ⟨h1, h2⟩ := hcc k hk
   exact ⟨(hc _ _ h2).trans h1, hs _ _ h2⟩
  ·have := hpp i hi
   simp only [PV.ok, Bool.and_eq_true] at this
   replace this := this.1
   revert hj
   generalize xs[i] = z at *
   intro hj
   cases z <;> first
    | (simp only [PV.cells, List.length_singleton] at hj; obtain rfl : j = 0 := by omega
       exact this)
    | (simp only [PV.pure] at this
       exact (pures_iff _).1 this _ (List.getElem_mem _))
 | ag xs cs hl h h1 ih =>
  refine .ag xs cs hl (fun j h1 h2 => ih j h1 h2 ?_) h1
  exact (pures_iff _).1 (by simpa [PV.pure] using hp) _ (List.getElem_mem _)
 | tp xs cs hl h ih =>
  refine .tp xs cs hl (fun j h1 h2 => ih j h1 h2 ?_)
  exact (pures_iff _).1 (by simpa [PV.pure] using hp) _ (List.getElem_mem _)
 | mp id h hm => simp [PV.pure] at hp
 | it id h hm => simp [PV.pure] at hp
 | bp id off h hm => simp [PV.pure] at hp
 | bs id off len cap h hm hcap hmax => simp [PV.pure] at hp
 | gs id len cap h hm hcap hmax => simp [PV.pure] at hp
 | ep xs b off c hcc hpp hr ih =>
  refine .ep xs b off c (fun k hk => ?_) hpp (fun i hi => ih i hi (hpp i hi).1)
  obtain ⟨h1, h2⟩ := hcc k hk
  exact ⟨(hc _ _ h2).trans h1, hs _ _ h2⟩
 | fn f a b a' b' ha hb h1 h2 ih1 ih2 =>
  simp only [PV.pure, Bool.and_eq_true] at hp
  exact .fn f a b a' b' ha hb (fun j k1 k2 => ih1 j k1 k2 ((pures_iff _).1 hp.1 _ (List.getElem_mem _))) (fun j k1 k2 => ih2 j k1 k2 ((pures_iff _).1 hp.2 _ (List.getElem_mem _)))
 | ifc t x y h ih => exact .ifc t x y (ih (by simpa [PV.pure] using hp))

theorem Rep.settle {G : Ghost} {w : World} {x : PV} {y : Value} (h : Rep G w x y) : Rep G w x.settle y := by
 induction h with
 | v h => exact .v h
 | junk x => exact .junk x
 | snil o ao ho => exact .snil _ _ (fun t ht => by cases ht)
 | sl o xs b off cap sz c hlen hc hp hr hcap hmax hfull htok ih => exact .sl _ xs b off cap sz c hlen hc hp hr hcap hmax (fun h => by cases h) (fun t ht => by cases ht)
 | ag xs cs hl h h1 ih =>
  simp only [PV.settle, settles_eq]
  exact .ag _ cs (by simpa using hl) (fun j k1 k2 => by simpa using ih j (by simpa using k1) k2) h1
 | tp xs cs hl h ih =>
  simp only [PV.settle, settles_eq]
  exact .tp _ cs (by simpa using hl) (fun j k1 k2 => by simpa using ih j (by simpa using k1) k2)
 | mp id h hm => exact .mp id h hm
 | it id h hm => exact .it id h hm
 | bp id off h hm => exact .bp id off h hm
 | bs id off len cap h hm hcap hmax => exact .bs id off len cap h hm hcap hmax
 | gs id len cap h hm hcap hmax => exact .gs id len cap h hm hcap hmax
 | ep xs b off c hc hp hr ih => exact .ep xs b off c hc hp hr
 | fn f a b a' b' ha hb h1 h2 ih1 ih2 =>
  simp only [PV.settle, settles_eq]
  exact .fn f _ _ a' b' (by simpa using ha) (by simpa using hb) (fun j k1 k2 => by simpa using ih1 j (by simpa using k1) k2) (fun j k1 k2 => by simpa using ih2 j (by simpa using k1) k2)
 | ifc t x y h ih => exact .ifc t _ y ih

theorem Rep.cells {G : Ghost} {w : World} {x : PV} {y : Value} (h : Rep G w x y) (hj : x ≠ .junk) :
    x.cells.length = y.cells.size ∧ ∀ j (h1 : j < x.cells.length) (h2 : j < y.cells.size), Rep G w x.cells[j] y.cells[j] := by
 cases h with
 | junk => exact absurd rfl hj
 | ag xs cs hl h h1 => exact ⟨by simpa [PV.cells, Value.cells] using hl, fun j k1 k2 => h j k1 (by simpa [Value.cells] using k2)⟩
 | v h =>
  have hx : y.cells = #[y] := by cases y <;> first | rfl | simp [atom] at h
  exact ⟨by simp [PV.cells, hx], fun j k1 k2 => by
   simp only [PV.cells, List.length_singleton] at k1
   obtain rfl : j = 0 := by omega
   simpa [PV.cells, hx] using Rep.v (G := G) (w := w) h⟩
 | _ =>
  refine ⟨rfl, fun j k1 k2 => ?_⟩
  simp only [PV.cells, List.length_singleton] at k1
  obtain rfl : j = 0 := by omega
  first
   | exact .snil _ _ ‹_›
   | exact .sl _ _ _ _ _ _ _ ‹_› ‹_› ‹_› ‹_› ‹_› ‹_› ‹_› ‹_›
   | exact .tp _ _ ‹_› ‹_›
   | exact .mp _ ‹_› ‹_›
   | exact .it _ ‹_› ‹_›
   | exact .bp _ _ ‹_› ‹_›
   | exact .bs _ _ _ _ ‹_› ‹_› ‹_› ‹_›
   | exact .gs _ _ _ ‹_› ‹_› ‹_› ‹_›
   | exact .ep _ _ _ _ ‹_› ‹_› ‹_›
   | exact .fn _ _ _ _ _ ‹_› ‹_› ‹_› ‹_›
   | exact .ifc _ _ _ ‹_›

theorem Rep.one {G : Ghost} {w : World} {x : PV} {y : Value} (h : Rep G w x y) (h1 : x.one = true) : y.oneCell' = true := by
 cases h with
 | v h => cases y <;> first | rfl | simp [atom] at h
 | junk => simp [PV.one] at h1
 | ag => simp [PV.one] at h1
 | tp => simp [PV.one] at h1
 | _ => rfl
theorem Rep.ones {G : Ghost} {w : World} {x : PV} {y : Value} (h : Rep G w x y) (hj : x.one = true ∨ ∃ xs, x = .ag xs) : ∀ u ∈ y.cells.toList, u.oneCell' = true := by
 rcases hj with h1 | ⟨xs, rfl⟩
 ·have h2 := h.one h1
  have : y.cells = #[y] := by cases y <;> first | rfl | simp [Value.oneCell'] at h2
  simp [this, h2]
 ·cases h with
  | ag _ cs hl h h1 => simpa [Value.cells] using h1
end Go.Proofs.YthhhnfjcaicjnaaGreatDoor
