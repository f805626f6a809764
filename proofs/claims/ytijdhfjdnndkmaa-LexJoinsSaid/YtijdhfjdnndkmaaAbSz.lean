/-
  A row's step where the law needs that an argument's list is no longer than the form lets it be.
-/
import Derived.Test.YtijdhfjdnndkmaaAbLaw
set_option linter.unusedVariables false
set_option linter.unusedSimpArgs false
namespace Go.Proofs.Ytijdhfjdnndkmaa
open Go Go.RowKit Go.WideShapes Go.ChangeShapes

/-- Lists among the arguments are as short as the form says. -/
def Short (P : Program) (ts : List TypeId) (xs : List PV) : Prop :=
  ∀ (j : Nat) t e o l, ts[j]? = some t → P.underlying t = some (.slice e) → xs[j]? = some (.sl o l) → l.length * P.bytesOf e ≤ reachBytes

section
variable {H : Type} {enc : TypeId × Value → H} {P : Program} {W : World} {base : Nat}

theorem arg_len {t e : TypeId} (hu : P.underlying t = some (.slice e)) {v : Value} {d : DataW H} {p : List MemPlace} (h : DataW.Trod enc P W 0 (fun _ => true) true t v d p)
    {o : Own} {l : List PV} (hr : Rep (G0 W) W (.sl o l) v) : l.length = 0 ∨ ∃ es sp, d = .slice es sp ∧ es.length = l.length := by
  obtain ⟨fuel, hf⟩ := h
  rcases DataW.trod_slice hu hf with ⟨h1, _⟩ | ⟨a, len, cap, elems, rest, n', hn', h1, h2, _, _, _, hel, _⟩
  · left
    have h2 : v.cells.toList = [.slice none 0 0] := h1
    cases hr with
    | snil _ ao ho => rfl
    | sl _ _ b off cap sz c => simp [Value.cells] at h2
  · right
    refine ⟨_, _, (Prod.mk.inj h2).1, ?_⟩
    have h3 : v.cells.toList = [.slice (some a) len cap] := h1
    cases hr with
    | snil _ ao ho => simp [Value.cells] at h3; simp [hel, ← h3.2.1]
    | sl _ _ b off cap sz c => simp [Value.cells] at h3; simp [hel, ← h3.2.1]

theorem args_short : ∀ (ts : List TypeId) (vs : List Value) (ds : List (DataW H)) (p : List MemPlace) (us : List TypeId) (gs : List (DataW H)), DataW.TrodAll enc P W 0 (fun _ => true) true ts vs ds p →
    ((DataW.weightsEach P (ts ++ us) (ds ++ gs)).all (· ≤ reachBytes) = true) → ∀ (xs : List PV), xs.length = vs.length → (∀ j (h1 : j < xs.length) (h2 : j < vs.length), Rep (G0 W) W xs[j] vs[j]) → Short P ts xs
  | [], [], [], p, us, gs, _, _, xs, _, _ => fun j t e o l h => by simp at h
  | t :: ts, v :: vs, d :: ds, p, us, gs, h, hw, xs, hl, hr => by
    obtain ⟨p1, q1, h1, h2, rfl⟩ := h
    obtain ⟨x, xs, rfl⟩ : ∃ x ys, xs = x :: ys := by
      cases xs with
      | nil => simp at hl
      | cons x ys => exact ⟨x, ys, rfl⟩
    have hw2 : (DataW.weightsEach P (ts ++ us) (ds ++ gs)).all (· ≤ reachBytes) = true := by
      rw [List.all_eq_true] at hw ⊢
      intro n hn
      refine hw n ?_
      show n ∈ DataW.weightsEach P (t :: (ts ++ us)) (d :: (ds ++ gs))
      simp only [DataW.weightsEach, List.mem_append]
      exact .inr hn
    have ih := args_short ts vs ds q1 us gs h2 hw2 xs (by simpa using hl) (fun j a b => hr (j + 1) (by simpa using a) (by simpa using b))
    intro j u e o l hj hu hx
    cases j with
    | zero =>
      obtain rfl : t = u := by simpa using hj
      obtain rfl : x = .sl o l := by simpa using hx
      have h0 := hr 0 (by simp) (by simp)
      simp only [List.getElem_cons_zero] at h0
      rcases arg_len hu h1 h0 with hz | ⟨es, sp, rfl, he⟩
      · rw [hz]; simp
      · have hs := sized_slice (j := 0) (t := t) (e := e) (elems := es) (spare := sp) hw (by rfl) (by rfl) hu
        rw [← he]
        exact Nat.le_trans (Nat.mul_le_mul_right _ (Nat.le_add_right _ _)) hs
    | succ j => exact ih j u e o l (by simpa using hj) hu (by simpa using hx)
  | [], _ :: _, _, _, _, _, h, _, _, _, _ => h.elim
  | [], [], _ :: _, _, _, _, h, _, _, _, _ => h.elim
  | _ :: _, [], _, _, _, _, h, _, _, _, _ => h.elim
  | _ :: _, _ :: _, [], _, _, _, h, _, _, _, _ => h.elim

theorem lifted_short {C : Checked} {os : Os} {f : FuncId} {fn : Func} {s : ChangeSpec} {conds : List PathCond} {tb : TypeId} (own : ownKnob C.prog.godebug = none) (started : os.Started) (noInit : C.prog.inits.idxOf? f = none) (hfn : C.prog.funcs[f]? = some fn)
    (witness : ∃ (w : World) (tape : Tape) (i : Input), w.os = os ∧ (w.forCall tape i).Shaped C.prog ∧ i.vars = [] ∧ Input.okWide C.prog (w.forCall tape i) .any w.heap.size f i ∧
      s.pre6 enc C.prog fn conds false (w.forCall tape i).memory i.args ∧ ({} : Assume).holds C.prog (lone (Frame.enter C.prog f i.args .normal) [] (w.forCall tape i)))
    (hvars : s.vars = []) (hspec : ∀ (ds : List (DataW H)), ds.length = fn.params.size → s.fn H ds = { results := [.lit (.bool true)], args := ds }) (hres : fn.resultTypes = #[tb]) (htb : C.prog.underlying tb = some .bool)
    (L : List TypeId) (hL : closedT C.prog L = true) (hts : ∀ t ∈ fn.params.toList, t ∈ L) (hl : laidOutB C.prog = true) (hrd : ∀ t ∈ fn.params.toList, C.prog.readableRec t = true ∧ t < C.prog.types.size)
    (law : ∀ xs, AllTy C.prog fn.params.toList xs → Short C.prog fn.params.toList xs → ACalls C.prog f xs M0 (fun v m' => v = .v (.bool true))) (hno : ∀ W : World, W.ShapedOpen C.prog → ∀ q ∈ laidC, laidAt W q) :
    ReturnsInHanded {} C os f .any (s.pre6 enc C.prog fn conds false) (s.post enc C.prog fn false true false false) := by
  refine returnsInHanded_of_change_shaped (C := C) own started noInit hfn witness ?_
  intro W base args ds gs before hval hW hcnd hwts hsh _
  have hlaidC : ∀ q ∈ laidC, laidAt W q ∧ q.1 < W.heap.size := fun q hq => ⟨hno W hsh q hq, laidAt_lt (hno W hsh q hq)⟩
  have hW' := hW
  obtain ⟨p, q, hA, hV, rfl, hfz, hnd⟩ := hW
  rw [hvars] at hV
  obtain ⟨rfl, rfl⟩ := trodVars_none hV
  obtain ⟨xs, k1, k2, k3⟩ := args_open L hL fn.params.toList args.toList ds p hts (fun j t v h1 h2 => hval j t v (by simpa using h1) (by simpa using h2)) hA
  have hlaw := law_of (w := W) (vs := args.toList) (y := .bool true) (law xs k1 (args_short _ _ _ _ _ _ hA hwts xs k2 k3)) k2 k3 (fun G w u h => h.atomEq) hlaidC
  rw [Array.toArray_toList] at hlaw
  refine hlaw.mono fun e W' ⟨he, hb⟩ => ?_
  subst he
  have hlen : ds.length = fn.params.size := by
    have : ∀ (ts : List TypeId) (vs : List Value) (ds : List (DataW H)) (p : List MemPlace), DataW.TrodAll enc C.prog W 0 (fun _ => true) true ts vs ds p → ds.length = ts.length := by
      intro ts
      induction ts with
      | nil => intro vs ds p h; cases vs <;> cases ds <;> first | rfl | exact h.elim
      | cons t ts ih =>
        intro vs ds p h
        cases vs with
        | nil => exact h.elim
        | cons v vs =>
          cases ds with
          | nil => exact h.elim
          | cons d ds => obtain ⟨_, _, _, h2, _⟩ := h; simp [ih vs ds _ h2]
    simpa using this _ _ _ _ hA
  have hsp := hspec (ds ++ []) (by simpa using hlen)
  have hlow : ∀ x ∈ p, x.block < W.heap.size := fun x hx => hW'.lt x (by simpa using hx)
  refine ⟨_, rfl, ds, [], p ++ [], [], p, [], hW', ?_, ?_, ?_, hb.frame _, fun h => by cases h⟩
  · rw [hsp, hres]
    exact trodAll_mk1 (shut_bool htb true)
  · rw [hsp]
    simp only [List.append_nil]
    exact args_below hl hb _ _ _ _ hrd hlow hA
  · rw [hvars, hsp]
    rfl
end
end Go.Proofs.Ytijdhfjdnndkmaa
