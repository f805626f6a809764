/-
  A region that draws its order, step by step.
-/
import Derived.Test.YtibhhoknipdlpaaAbFn
set_option linter.unusedVariables false
set_option linter.unusedSimpArgs false
namespace Go.Proofs.Ytibhhoknipdlpaa
open Go

/-- An operation that yields the same at every state of S. -/
def aQv (P : Program) (mu : List Nat) (o : Oper) (f : F) (m : M) (S : M → Prop) (X : PV → Prop) : Prop :=
  match aStep P (muOf mu o) o.op f m with
  | .ok p v _ => (∀ m2, S m2 → aStep P (muOf mu o) o.op f m2 = .ok p v m2) ∧ p ∧ X v
  | _ => False
def aLexL (P : Program) (mu : List Nat) (ops : Array Oper) (S : M → Prop) (K : F → M → Prop) : List Oper → F → M → Prop
  | [], f, m => K f m
  | o :: rest, f, m => match o.guard with
    | none => if isEff mu o then aOp P mu o f m fun v m' => S m' ∧ aLexL P mu ops S K rest (F.put f o.dst v) m' else aQv P mu o f m S fun v => aLexL P mu ops S K rest (F.put f o.dst v) m
    | some (j, want) => aGuard (guardA ops f j want)
        (if isEff mu o then aOp P mu o f m fun v m' => S m' ∧ aLexL P mu ops S K rest (F.put f o.dst v) m' else aQv P mu o f m S fun v => aLexL P mu ops S K rest (F.put f o.dst v) m)
        (aLexL P mu ops S K rest (F.put f o.dst (.tp [])) m)

section
variable {P : Program} {mu : List Nat} {ops : Array Oper} {S : M → Prop} {K : F → M → Prop}
theorem aLex_of_L : ∀ (l : List Oper) (k : Nat) {f : F} {m : M}, (∀ j, l[j]? = ops[k + j]?) → aLexL P mu ops S K l f m → aLex P mu ops S K (List.range' k l.length) f m
  | [], _, f, m, _, h => h
  | o :: l, k, f, m, hl, h => by
    have h0 : ops[k]? = some o := by simpa using (hl 0).symm
    have rest := fun {f : F} {m : M} (h : aLexL P mu ops S K l f m) => aLex_of_L l (k + 1) (f := f) (m := m) (fun j => by have := hl (j + 1); simpa [Nat.add_assoc, Nat.add_comm 1 j] using this) h
    have body : (if isEff mu o then aOp P mu o f m fun v m' => S m' ∧ aLexL P mu ops S K l (F.put f o.dst v) m' else aQv P mu o f m S fun v => aLexL P mu ops S K l (F.put f o.dst v) m) →
        (if isEff mu o then aOp P mu o f m fun v m' => S m' ∧ aLex P mu ops S K (List.range' (k + 1) l.length) (F.put f o.dst v) m' else ∃ v, aQuiet P mu o f S v ∧ aLex P mu ops S K (List.range' (k + 1) l.length) (F.put f o.dst v) m) := fun hx => by
      by_cases he : isEff mu o = true
      · rw [if_pos he] at hx ⊢
        exact aOp_mono hx fun v m' ⟨a, b⟩ => ⟨a, rest b⟩
      · rw [if_neg he] at hx ⊢
        unfold aQv at hx
        split at hx
        · rename_i p v m' hs
          obtain ⟨a, b, c⟩ := hx
          exact ⟨v, fun m2 hm2 => ⟨p, a m2 hm2, b⟩, rest c⟩
        · exact hx.elim
    simp only [aLexL] at h
    simp only [List.length_cons, List.range'_succ, aLex, h0, aG]
    cases hg : o.guard with
    | none => simp only [hg] at h ⊢; exact body h
    | some jw =>
      obtain ⟨j, want⟩ := jw
      simp only [hg] at h ⊢
      unfold aGuard at h ⊢
      split at h
      · exact ⟨fun hb => body (h.1 hb), fun hb => rest (h.2 hb)⟩
      · exact h.elim
theorem aDrw {K : Exit → F → M → Prop} {id : Nat} {l : List Oper} {f : F} {m : M} (S : M → Prop) (hok : lexOk mu l.toArray = true) (hS : S m) (h : aLexL P mu l.toArray S (K .normal) l f m) : aCode P mu (.region id l.toArray true) K f m := by
  refine ⟨hok, S, hS, ?_⟩
  have := aLex_of_L (ops := l.toArray) l 0 (fun j => by simp) h
  rw [List.range_eq_range']
  exact this
end
end Go.Proofs.Ytibhhoknipdlpaa
