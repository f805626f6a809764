/-
  A row's step: a law that is true on values without addresses is true of the model.
-/
import Derived.HandedShaped
import Derived.Shelf.Vars
import Derived.Test.YtepjjgnkhcjpcaaDoorAbOpen
import Derived.ProofKit
import Derived.OpenShut
import Derived.Carry
set_option linter.unusedVariables false
set_option linter.unusedSimpArgs false
namespace Go.Proofs.YtepjjgnkhcjpcaaDoor
open Go Go.RowKit Go.WideShapes Go.ChangeShapes

def TyA (P : Program) (t : TypeId) (x : PV) : Prop := ∃ n, TyCs P n t x.cells ∧ (if aggT P t then x = .ag x.cells else x.cells = [x])
def AllTy (P : Program) : List TypeId → List PV → Prop
  | [], xs => xs = []
  | t :: ts, xs => ∃ x r, xs = x :: r ∧ TyA P t x ∧ AllTy P ts r

section
variable {H : Type} {enc : TypeId × Value → H} {P : Program} {W : World} {base : Nat}

theorem arg_open (L : List TypeId) (hL : closedT P L = true) {t : TypeId} (ht : t ∈ L) {v : Value} {d : DataW H} {p : List MemPlace} (hv : Value.okWide P W .any base t v) (h : DataW.Trod enc P W 0 (fun _ => true) true t v d p) :
    ∃ x, Rep (G0 W) W x v ∧ TyA P t x := by
  obtain ⟨fuel, hf⟩ := h
  obtain ⟨pcs, q1, q2, q3, q4, q5⟩ := trod_open rfl L hL fuel t _ _ ht hf
  have hc := List.all_eq_true.1 hL t ht
  cases hu : P.underlying t with
  | none => simp [hu] at hc
  | some td =>
    cases td <;> simp only [hu, Bool.false_eq_true] at hc
    case struct fs =>
      obtain ⟨cs, rfl, _⟩ := okWide_struct hu hv
      have ha : aggT P t = true := by simp [aggT, hu]
      refine ⟨.ag pcs, ?_, fuel, q2, by rw [if_pos ha]; rfl⟩
      have := Rep.ag pcs _ q1.len q1.rep q1.one
      simpa [Value.cells] using this
    all_goals
      have ha : aggT P t = false := by simp [aggT, hu]
      have hone : v.cells = #[v] := by
        simp only [Value.okWide, hu, Cell.okWide, Cell.ok] at hv
        cases v <;> first | rfl | (exfalso; exact hv)
      rw [hone] at q1
      obtain ⟨x, rfl⟩ := List.length_eq_one_iff.1 (q1.len.trans rfl)
      have hxo : x.one = true := by simpa using q5
      have hxc : x.cells = [x] := by cases x <;> first | rfl | simp [PV.one] at hxo
      exact ⟨x, by simpa using q1.rep 0 (by simp) (by simp), fuel, by rw [hxc]; exact q2, by rw [if_neg (by simp [ha])]; exact hxc⟩

theorem args_open (L : List TypeId) (hL : closedT P L = true) : ∀ (ts : List TypeId) (vs : List Value) (ds : List (DataW H)) (p : List MemPlace), (∀ t ∈ ts, t ∈ L) → (∀ (j : Nat) t v, ts[j]? = some t → vs[j]? = some v → Value.okWide P W .any base t v) →
    DataW.TrodAll enc P W 0 (fun _ => true) true ts vs ds p → ∃ xs, AllTy P ts xs ∧ xs.length = vs.length ∧ ∀ j (h1 : j < xs.length) (h2 : j < vs.length), Rep (G0 W) W xs[j] vs[j]
  | [], [], [], p, _, _, _ => ⟨[], rfl, rfl, fun j h => by simp at h⟩
  | t :: ts, v :: vs, d :: ds, p, hts, hval, h => by
    obtain ⟨p1, q1, h1, h2, rfl⟩ := h
    obtain ⟨x, hx, hty⟩ := arg_open L hL (hts t (by simp)) (hval 0 t v rfl rfl) h1
    obtain ⟨xs, k1, k2, k3⟩ := args_open L hL ts vs ds q1 (fun u hu => hts u (by simp [hu])) (fun j u w hu hw => hval (j + 1) u w (by simpa using hu) (by simpa using hw)) h2
    refine ⟨x :: xs, ⟨x, xs, rfl, hty, k1⟩, by simp [k2], fun j a b => ?_⟩
    cases j with
    | zero => exact hx
    | succ j => simpa using k3 j (by simpa using a) (by simpa using b)
  | [], _ :: _, _, _, _, _, h => h.elim
  | [], [], _ :: _, _, _, _, h => h.elim
  | _ :: _, [], _, _, _, _, h => h.elim
  | _ :: _, _ :: _, [], _, _, _, h => h.elim

theorem args_below (hl : laidOutB P = true) {W' : World} (hb : Below W.heap.size W W') : ∀ (ts : List TypeId) (vs : List Value) (ds : List (DataW H)) (p : List MemPlace), (∀ t ∈ ts, P.readableRec t = true ∧ t < P.types.size) → (∀ x ∈ p, x.block < W.heap.size) →
    DataW.TrodAll enc P W 0 (fun _ => true) true ts vs ds p → DataW.TrodAll enc P W' 0 (fun b => decide (b < W.heap.size)) true ts vs ds p
  | [], [], [], _, _, _, h => h
  | t :: ts, v :: vs, d :: ds, p, hts, hlt, h => by
    obtain ⟨p1, q1, h1, h2, rfl⟩ := h
    exact ⟨p1, q1, Below.trod hl (hts t (by simp)).1 (hts t (by simp)).2 h1 hb (fun x hx => hlt x (by simp [hx])), args_below hl hb ts vs ds q1 (fun u hu => hts u (by simp [hu])) (fun x hx => hlt x (by simp [hx])) h2, rfl⟩
  | [], _ :: _, _, _, _, _, h => h.elim
  | [], [], _ :: _, _, _, _, h => h.elim
  | _ :: _, [], _, _, _, _, h => h.elim
  | _ :: _, _ :: _, [], _, _, _, h => h.elim

theorem laidAt_lt {w : World} {q : Nat × (List Value → Prop)} (h : laidAt w q) : q.1 < w.heap.size := by
  obtain ⟨cs, t, f, h1, _⟩ := h
  exact (Array.getElem?_eq_some_iff.1 h1).1
theorem lifted_gen {C : Checked} {os : Os} {f : FuncId} {fn : Func} {s : ChangeSpec} {conds : List PathCond} {tb : TypeId} (own : ownKnob C.prog.godebug = none) (started : os.Started) (noInit : C.prog.inits.idxOf? f = none) (hfn : C.prog.funcs[f]? = some fn)
    (witness : ∃ (w : World) (tape : Tape) (i : Input), w.os = os ∧ (w.forCall tape i).Shaped C.prog ∧ i.vars = [] ∧ Input.okWide C.prog (w.forCall tape i) .any w.heap.size f i ∧
      s.pre6 enc C.prog fn conds false (w.forCall tape i).memory i.args ∧ ({} : Assume).holds C.prog (lone (Frame.enter C.prog f i.args .normal) [] (w.forCall tape i)))
    (hvars : s.vars = []) (hspec : ∀ (ds : List (DataW H)), ds.length = fn.params.size → s.fn H ds = { results := [.lit (.bool true)], args := ds }) (hres : fn.resultTypes = #[tb]) (htb : C.prog.underlying tb = some .bool)
    (L : List TypeId) (hL : closedT C.prog L = true) (hts : ∀ t ∈ fn.params.toList, t ∈ L) (hl : laidOutB C.prog = true) (hrd : ∀ t ∈ fn.params.toList, C.prog.readableRec t = true ∧ t < C.prog.types.size)
    (law : ∀ xs, AllTy C.prog fn.params.toList xs → ACalls C.prog f xs M0 (fun v m' => v = .v (.bool true))) (hno : ∀ W : World, W.ShapedOpen C.prog → ∀ q ∈ laidC, laidAt W q) :
    ReturnsInHanded {} C os f .any (s.pre6 enc C.prog fn conds false) (s.post enc C.prog fn false true false false) := by
  refine returnsInHanded_of_change_shaped (C := C) own started noInit hfn witness ?_
  intro W base args ds gs before hval hW hcnd _ hsh _
  have hlaidC : ∀ q ∈ laidC, laidAt W q ∧ q.1 < W.heap.size := fun q hq => ⟨hno W hsh q hq, laidAt_lt (hno W hsh q hq)⟩
  have hW' := hW
  obtain ⟨p, q, hA, hV, rfl, hfz, hnd⟩ := hW
  rw [hvars] at hV
  obtain ⟨rfl, rfl⟩ := trodVars_none hV
  obtain ⟨xs, k1, k2, k3⟩ := args_open L hL fn.params.toList args.toList ds p hts (fun j t v h1 h2 => hval j t v (by simpa using h1) (by simpa using h2)) hA
  have hlaw := law_of (w := W) (vs := args.toList) (y := .bool true) (law xs k1) k2 k3 (fun G w u h => h.atomEq) hlaidC
  rw [Array.toArray_toList] at hlaw
  refine hlaw.mono fun e W' ⟨he, hb⟩ => ?_
  subst he
  have hlen : ds.length = fn.params.size := by
    have : ∀ (ts : List TypeId) (vs : List Value) (ds : List (DataW H)) (p : List MemPlace), DataW.TrodAll enc C.prog W 0 (fun _ => true) true ts vs ds p → ds.length = ts.length := by
      intro ts
      induction ts with
      | nil => intro vs ds p h; cases vs <;> cases ds <;> first | rfl | exact h.elim
      | cons t ts ih =>
        intro vs ds p h
        cases vs with
        | nil => exact h.elim
        | cons v vs =>
          cases ds with
          | nil => exact h.elim
          | cons d ds => obtain ⟨_, _, _, h2, _⟩ := h; simp [ih vs ds _ h2]
    simpa using this _ _ _ _ hA
  have hsp := hspec (ds ++ []) (by simpa using hlen)
  have hlow : ∀ x ∈ p, x.block < W.heap.size := fun x hx => hW'.lt x (by simpa using hx)
  refine ⟨_, rfl, ds, [], p ++ [], [], p, [], hW', ?_, ?_, ?_, hb.frame _, fun h => by cases h⟩
  · rw [hsp, hres]
    exact trodAll_mk1 (shut_bool htb true)
  · rw [hsp]
    simp only [List.append_nil]
    exact args_below hl hb _ _ _ _ hrd hlow hA
  · rw [hvars, hsp]
    rfl
end
end Go.Proofs.YtepjjgnkhcjpcaaDoor
