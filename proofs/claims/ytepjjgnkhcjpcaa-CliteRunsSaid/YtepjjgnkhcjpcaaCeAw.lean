/-
  The awake of law 23.
-/
import Derived.Test.YtepjjgnkhcjpcaaCeNew
import Derived.Test.YtepjjgnkhcjpcaaAbTail
set_option linter.unusedVariables false
set_option linter.unusedSimpArgs false
namespace Go.Proofs.Ytepjjgnkhcjpcaa
open Go
-- TYPES:
/-- Slots that stay boxes. -/
def mus (g : Nat) : List Nat := match g with
  | 3 => [3, 5, 7, 12, 20]
  | 4 => [8]
  | 5 => [5, 6, 7]
  | 6 => [9, 55]
  | 7 => [8]
  | 8 => [1]
  | 11 => [2]
  | 12 => [2, 3]
  | 13 => [3, 11]
  | 14 => [2, 3]
  | 15 => [2]
  | 17 => [2, 18]
  | 18 => [9, 10, 11, 12, 13]
  | 20 => [6, 9, 10, 12]
  | 21 => [2, 3]
  | 22 => [2, 3]
  | 23 => [10]
  | 24 => [2, 3, 4, 5, 6]
  | 25 => [5]
  | 27 => [2]
  | 28 => [3, 10]
  | 30 => [2]
  | 32 => [2]
  | 34 => [6]
  | 35 => [63]
  | 37 => [8, 9]
  | 39 => [3]
  | 42 => [3]
  | 44 => [5]
  | 48 => [3]
  | 52 => [3, 5]
  | 54 => [3, 9]
  | _ => []

/-- clite.New, for the run. -/
def ceHook (next : CallR) : CallR := fun g args m => if g = 17 then (match args with
  | [PV.ag [a1, a2], PV.v (Value.int .i64 n)] => if 0 ≤ n ∧ n ≤ 1048576 then some (.val (.tp [.bp (m.nb + 2) 0, .v (.int .i64 0)]) (((m.push (List.replicate n.toNat (.v (.int .i32 0)))).push (List.replicate n.toNat (.v (.bool false)))).push [a1, a2, .bs m.nb 0 n.toNat, .bs (m.nb + 1) 0 n.toNat])) else none
  | _ => none) else next g args m
theorem ceHook_ok {next : CallR} (hn : CallOk Try.prog next) : CallOk Try.prog (ceHook next) := by
  intro g args m r h
  unfold ceHook at h
  split at h
  · rename_i hg
    subst hg
    split at h
    · split at h
      · rename_i a1 a2 n hq
        cases h
        have := newC_any a1 a2 n.toNat (by omega) m
        rwa [Int.toNat_of_nonneg hq.1] at this
      · cases h
    · cases h
  · exact hn _ _ _ _ h
set_option maxRecDepth 100000 in
theorem awakeC (m : M) : ACalls Try.prog 8 [] m (fun v m' => v = .v (.bool true) ∧ m' = m) := ACalls.ranD (mus := mus) (hook := ceHook noHook) (k := 300) ok_mix (ceHook_ok noHook_ok) (by kernel_rfl) m ⟨rfl, rfl⟩
end Go.Proofs.Ytepjjgnkhcjpcaa
