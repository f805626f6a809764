/-
  The awake of law 23.
-/
import Derived.Test.YtepjjgnkhcjpcaaDoorCeNew
import Derived.Test.YtepjjgnkhcjpcaaDoorAbTail
set_option linter.unusedVariables false
set_option linter.unusedSimpArgs false
namespace Go.Proofs.YtepjjgnkhcjpcaaDoor
open Go
-- TYPES:
/-- Slots that stay boxes. -/
def mus (g : Nat) : List Nat := match g with
  | 4 => [1]
  | 50 => [2]
  | 49 => [2, 3]
  | 43 => [3, 11]
  | 21 => [2, 3]
  | 10 => [2]
  | 11 => [2, 18]
  | 12 => [9, 10, 11, 12, 13]
  | 5 => [6, 9, 10, 12]
  | 7 => [2, 3]
  | 14 => [2]
  | 53 => [3, 10]
  | 52 => [2]
  | 26 => [2]
  | 18 => [6]
  | 19 => [63]
  | 22 => [5]
  | 27 => [3]
  | 33 => [3, 5]
  | 35 => [3, 9]
  | _ => []

/-- clite.New, for the run. -/
def ceHook (next : CallR) : CallR := fun g args m => if g = 11 then (match args with
  | [PV.ag [a1, a2], PV.v (Value.int .i64 n)] => if 0 ≤ n ∧ n ≤ 1048576 then some (.val (.tp [.bp (m.nb + 2) 0, .v (.int .i64 0)]) (((m.push (List.replicate n.toNat (.v (.int .i32 0)))).push (List.replicate n.toNat (.v (.bool false)))).push [a1, a2, .bs m.nb 0 n.toNat, .bs (m.nb + 1) 0 n.toNat])) else none
  | _ => none) else next g args m
theorem ceHook_ok {next : CallR} (hn : CallOk Tryd.prog next) : CallOk Tryd.prog (ceHook next) := by
  intro g args m r h
  unfold ceHook at h
  split at h
  · rename_i hg
    subst hg
    split at h
    · split at h
      · rename_i a1 a2 n hq
        cases h
        have := newC_any a1 a2 n.toNat (by omega) m
        rwa [Int.toNat_of_nonneg hq.1] at this
      · cases h
    · cases h
  · exact hn _ _ _ _ h
set_option maxRecDepth 100000 in
theorem awakeC (m : M) : ACalls Tryd.prog 4 [] m (fun v m' => v = .v (.bool true) ∧ m' = m) := ACalls.ranD (mus := mus) (hook := ceHook noHook) (k := 300) ok_mix (ceHook_ok noHook_ok) (by kernel_rfl) m ⟨rfl, rfl⟩
end Go.Proofs.YtepjjgnkhcjpcaaDoor
