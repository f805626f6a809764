/-
  lex.Words as a contract without addresses.
-/
import Derived.Test.YtijdhfjdnndkmaaLexX
import Derived.Test.YtijdhfjdnndkmaaAbClo
set_option linter.unusedVariables false
set_option linter.unusedSimpArgs false
namespace Go.Proofs.Ytijdhfjdnndkmaa
open Go Go.RowKit

/-- A world that has grown: all that is new is settled. -/
def Ghost.grow (G : Ghost) (a b : Nat) : Ghost := { G with set := fun k o => G.set k o ∨ (a ≤ k ∧ k < b) }
theorem Inv.grown {G : Ghost} {m : M} {w w' : World} (hI : Inv G m w) (hb : Below w.heap.size w w') : Inv (G.grow w.heap.size w'.heap.size) m w' ∧ Ext G w (G.grow w.heap.size w'.heap.size) w' := by
  have hE : Ext G w (G.grow w.heap.size w'.heap.size) w' := ⟨rfl, Nat.le_refl _, fun _ _ => rfl, fun _ _ => rfl, Nat.le_refl _, fun _ _ => rfl, fun _ _ h => .inl h, fun b o hs => hb.cell (p := ⟨b, o, none⟩) (hI.set b o hs), hb.mono hI.base⟩
  refine ⟨⟨hI.nb, hI.nt, Nat.le_trans hI.base hb.size, fun id c hc => ?_, fun id c hc o ho => ?_, hI.inj, fun t s ht => ?_, hI.tokd, fun b o hs => ?_, hI.layE hE⟩, hE⟩
  · obtain ⟨o, a1, a2, a5⟩ := hI.box id c hc
    exact ⟨o, (hb.block _ (hI.blt hc)).trans a1, a2.mono hE, a5⟩
  · rcases ho with ho | ⟨ho, _⟩
    · exact hI.boxset id c hc o ho
    · have := hI.blt hc
      have : G.box id < w.heap.size := this
      have h2 : w.heap.size ≤ G.box id := ho
      omega
  · obtain ⟨q0, q⟩ := hI.tok t s ht
    refine ⟨q0, fun b o hbo => ?_⟩
    obtain ⟨q1, q2, q3, q4, q5⟩ := q b o hbo
    have hlt : b < w.heap.size := by
      obtain ⟨u, hu⟩ := Option.isSome_iff_exists.1 q3
      exact World.block_lt_of_cell? w _ hu
    exact ⟨q1, fun hs => hs.elim q2 (fun h => by omega), by rw [hb.cell (p := ⟨b, o, none⟩) hlt]; exact q3, by rw [hb.frozen (p := ⟨b, o, none⟩) hlt]; exact q4, q5⟩
  · rcases hs with hs | ⟨_, hs⟩
    · exact Nat.lt_of_lt_of_le (hI.set b o hs) hb.size
    · exact hs

def tokPV (t : Tok) : PV := .ag [.v (.int .u8 t.kind), .v (.string t.text), .v (.int .i32 t.n), .v (.int .i64 t.line), .v (.int .i64 t.col)]
/-- What Words answers. -/
def wordsPV (r : LexR) : PV := if r.ok then .tp [.sl .no (r.toks.map tokPV), .v .nilIface] else .tp [.sl .no [], .ifc 57 (.ep [.v (.int .i64 r.line), .v (.int .i64 r.col), .v (.string ⟨#[]⟩), .v (.bool false), .ifc 43 (.v (.int .i64 r.kind))])]
theorem tokCells_at : ∀ (l : List Tok) (i j : Nat) (hi : i < l.length) (hj : j < 5), (tokCells l)[i * 5 + j]? = (l[i].cells)[j]?
  | [], i, j, hi, _ => by simp at hi
  | t :: l, 0, j, _, hj => by
    have h5 : t.cells.length = 5 := rfl
    simp only [tokCells, List.flatMap_cons, List.getElem_cons_zero]
    rw [List.getElem?_append_left (by omega)]
    simp
  | t :: l, i + 1, j, hi, hj => by
    have h5 : t.cells.length = 5 := rfl
    have := tokCells_at l i j (by simpa using hi) hj
    simp only [tokCells, List.flatMap_cons, List.getElem_cons_succ] at this ⊢
    rw [List.getElem?_append_right (by omega), ← this]
    congr 1
    omega
theorem rep_toks {G : Ghost} {w w' : World} {B : Nat} {out : Value} {toks : List Tok} (ho : w'.ownsRow B 38 5 out toks.length (tokCells toks)) (hB : w.heap.size ≤ B) :
    Rep (G.grow w.heap.size w'.heap.size) w' (.sl .no (toks.map tokPV)) out := by
  obtain ⟨hlen, h | ⟨g, cap, cur, rfl, hg, hh, hn, hcap, hsz, htk⟩⟩ := ho
  · obtain ⟨rfl, h0⟩ := h
    obtain rfl := List.eq_nil_of_length_eq_zero h0
    exact .snil _ _ (fun t ht => by cases ht)
  · have hglt : g < w'.heap.size := (Array.getElem?_eq_some_iff.1 hh).1
    have hcell : ∀ k, k < toks.length * 5 → w'.cell? ⟨g, k, none⟩ = some ((tokCells toks).getD k undef) := fun k hk => by
      have hk1 : k < (tokCells toks).length := by rw [hlen]; exact hk
      have hk2 : k < cur.size := by rw [hsz]; have := Nat.mul_le_mul_right 5 hn; omega
      have e : (tokCells toks)[k] = cur[k] := by
        have h1 : (cur.toList.take (toks.length * 5))[k]? = (tokCells toks)[k]? := by rw [htk]
        rw [List.getElem?_take_of_lt hk, List.getElem?_eq_getElem hk1] at h1
        simp [hk2] at h1
        exact h1.symm
      simp [World.cell?, hh, hk1, hk2, e]
    have := Rep.sl (G := G.grow w.heap.size w'.heap.size) (w := w') .no (toks.map tokPV) g 0 cap 5 (fun k => (tokCells toks).getD k undef) (fun i hi => by simp [tokPV, PV.cells]) (fun k hk => ?_) (fun i hi => by simp [tokPV]; rfl) (fun i hi j hj => ?_) (by simpa using hn) hcap (fun h => by cases h) (fun t ht => by cases ht)
    · simpa using this
    · refine ⟨by simpa using hcell k (by simpa using hk), .inr (.inr ⟨Nat.le_trans hB hg, hglt⟩)⟩
    · have hi' : i < toks.length := by simpa using hi
      have hj' : j < 5 := by simpa [tokPV, PV.cells] using hj
      have hat := tokCells_at toks i j hi' hj'
      have e : (tokCells toks).getD (i * 5 + j) undef = (toks[i].cells).getD j undef := by simp [List.getD, hat]
      simp only [e]
      simp only [List.getElem_map]
      match j, hj' with
      | 0, _ => exact .v rfl
      | 1, _ => exact .v rfl
      | 2, _ => exact .v rfl
      | 3, _ => exact .v rfl
      | 4, _ => exact .v rfl
theorem rep_fault {G : Ghost} {w w' : World} {v : Value} {kind line col : Int} (h : IsFault w.heap.size w' v kind line col) :
    Rep (G.grow w.heap.size w'.heap.size) w' (.ifc 57 (.ep [.v (.int .i64 line), .v (.int .i64 col), .v (.string ⟨#[]⟩), .v (.bool false), .ifc 43 (.v (.int .i64 kind))])) v := by
  obtain ⟨g, rfl, hg, hh⟩ := h
  have hglt : g < w'.heap.size := (Array.getElem?_eq_some_iff.1 hh).1
  refine .ifc _ _ _ (.ep _ g 0 (fun k => (#[.int .i64 line, .int .i64 col, .string ⟨#[]⟩, .bool false, .iface 43 (.int .i64 kind)] : Array Value).getD k undef) (fun k hk => ⟨?_, .inr (.inr ⟨hg, hglt⟩)⟩) (fun i hi => ?_) (fun i hi => ?_))
  · have hk' : k < 5 := by simpa using hk
    match k, hk' with
    | 0, _ => simp [World.cell?, hh]
    | 1, _ => simp [World.cell?, hh]
    | 2, _ => simp [World.cell?, hh]
    | 3, _ => simp [World.cell?, hh]
    | 4, _ => simp [World.cell?, hh]
  · have hk' : i < 5 := by simpa using hi
    match i, hk' with
    | 0, _ => exact ⟨rfl, rfl⟩
    | 1, _ => exact ⟨rfl, rfl⟩
    | 2, _ => exact ⟨rfl, rfl⟩
    | 3, _ => exact ⟨rfl, rfl⟩
    | 4, _ => exact ⟨rfl, rfl⟩
  · have hk' : i < 5 := by simpa using hi
    match i, hk' with
    | 0, _ => exact .v rfl
    | 1, _ => exact .v rfl
    | 2, _ => exact .v rfl
    | 3, _ => exact .v rfl
    | 4, _ => exact .ifc _ _ _ (.v rfl)
/-- lex.Words, without addresses. -/
theorem lexWords_any (s : ByteArray) (hs : s.size ≤ 281474976710656) (m : M) : ACalls Try.prog 11 [.v (.string s)] m (fun v m' => v = wordsPV (lexAll s) ∧ m' = m) := by
  refine ⟨by kernel_rfl, fun G w vs hI hl hr => ?_⟩
  obtain ⟨v0, rfl⟩ : ∃ v0, vs = [v0] := by
    match vs, hl with
    | [v0], _ => exact ⟨v0, rfl⟩
  have h0 := hr 0 (by simp) (by simp)
  simp only [List.getElem_cons_zero] at h0
  have e0 : v0 = .string s := h0.atomEq
  subst e0
  obtain ⟨u0, e1, n, e2⟩ := (hI.lay (0, fun v => ∃ n, v = .int .i64 n) (by simp [laidC])).1
  subst e2
  refine (words_any s w n e1 hs).mono ?_
  rintro e w' ⟨hb, hok, hno⟩
  obtain ⟨hI', hE⟩ := hI.grown hb
  cases hq : (lexAll s).ok with
  | true =>
    obtain ⟨out, rfl, ho⟩ := hok hq
    refine .inl ⟨_, _, m, _, rfl, ⟨rfl, rfl⟩, ?_, hI', hE⟩
    unfold wordsPV
    rw [if_pos hq]
    refine .tp _ [out, .nilIface] rfl (fun j h1 h2 => ?_)
    have hj : j < 2 := by simpa using h1
    match j, hj with
    | 0, _ => exact rep_toks ho (Nat.le_refl _)
    | 1, _ => exact .v rfl
  | false =>
    obtain ⟨v, rfl, hv⟩ := hno hq
    refine .inl ⟨_, _, m, _, rfl, ⟨rfl, rfl⟩, ?_, hI', hE⟩
    unfold wordsPV
    rw [if_neg (by simp [hq])]
    refine .tp _ [.slice none 0 0, v] rfl (fun j h1 h2 => ?_)
    have hj : j < 2 := by simpa using h1
    match j, hj with
    | 0, _ => exact .snil _ _ (fun t ht => by cases ht)
    | 1, _ => exact rep_fault hv
/-- lex.Words, for the run. -/
def lexHook (next : CallR) : CallR := fun g args m => if g = 11 then (match args with
  | [PV.v (Value.string s)] => if s.size ≤ 70000 then some (.val (wordsPV (lexAll s)) m) else none
  | _ => none) else next g args m
theorem lexHook_ok {next : CallR} (hn : CallOk Try.prog next) : CallOk Try.prog (lexHook next) := by
  intro g args m r h
  unfold lexHook at h
  split at h
  · rename_i hg
    subst hg
    split at h
    · split at h
      · rename_i hs
        cases h
        exact lexWords_any _ (by omega) m
      · cases h
    · cases h
  · exact hn _ _ _ _ h
end Go.Proofs.Ytijdhfjdnndkmaa
