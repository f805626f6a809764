/-
  The walk over lex.Same; the blanks of the law.
-/
import Derived.Test.YtijdhfjdnndkmaaLexWord
import Derived.Test.YtijdhfjdnndkmaaLexLaw3
import Derived.WalkKit
import Derived.WalkSpells
import Derived.WalkLawsBesides
import Derived.Lib.Hide
import Derived.Deep.Light
import Derived.Deep.QuietTactic
import Derived.BigQuiet
import Derived.Deep.RegionHeld3
import Derived.Deep.AppendLies
set_option linter.unusedVariables false
set_option linter.unusedSimpArgs false
namespace Go.Proofs.Ytijdhfjdnndkmaa
open Go.RowKit


def Tok.val (t : Tok) : Value := .agg #[.int .u8 t.kind, .string t.text, .int .i32 t.n, .int .i64 t.line, .int .i64 t.col]
set_option maxHeartbeats 1000000 in
theorem same_any (a b : Tok) (h : a.strip = b.strip) (w : World) :
    Calls Try.prog 12 #[a.val, b.val] w fun e w' => e = .returned (.bool true) ∧ Below w.heap.size w w' := by
  obtain ⟨k1, t1, n1, l1, c1⟩ := a
  obtain ⟨k2, t2, n2, l2, c2⟩ := b
  simp only [Tok.strip, Prod.mk.injEq] at h
  obtain ⟨rfl, ht, rfl⟩ := h
  obtain rfl := WideShapes.bytes_inj ht
  clear ht
  unfold Tok.val
  go_enter Try.func12, Try.ntmps12
  go_wp2
  go_ret
  exact ⟨rfl, ((Below.refl _ _).alloc (Nat.le_refl _) _).alloc (by simp) _⟩
end Go.Proofs.Ytijdhfjdnndkmaa
