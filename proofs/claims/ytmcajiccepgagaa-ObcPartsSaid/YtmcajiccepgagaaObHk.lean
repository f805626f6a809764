/-
  Runs at law 20: slots that stay, and what is known of calls.
-/
import Derived.Test.YtmcajiccepgagaaAbLv
import Derived.Test.YtmcajiccepgagaaObCn
set_option linter.unusedVariables false
set_option linter.unusedSimpArgs false
namespace Go.Proofs.Ytmcajiccepgagaa
open Go
-- TYPES:
/-- Slots that stay boxes. -/
def mus (g : Nat) : List Nat := match g with
  | 3 => [5, 6, 7]
  | 5 => [5]
  | 7 => [2]
  | 8 => [2]
  | 9 => [2]
  | 10 => [2, 3, 4, 5]
  | 11 => [8, 11, 26]
  | 14 => [3]
  | 16 => [10, 12]
  | 18 => [5]
  | 21 => [5]
  | 23 => [2, 3]
  | 24 => [3, 10, 29]
  | 25 => [3, 4]
  | 26 => [3]
  | 27 => [3]
  | 28 => [5]
  | 32 => [3]
  | 34 => [6, 8, 9, 11]
  | 36 => [8, 9]
  | 37 => [2, 3]
  | 38 => [2, 3]
  | 40 => [8, 9]
  | 45 => [2]
  | 46 => [3]
  | 47 => [3, 8]
  | 48 => [3]
  | 53 => [2]
  | 54 => [3]
  | 55 => [2]
  | _ => []
/-- The class of law 20, for the run. -/
def obHook (next : CallR) : CallR := fun g args m => if g = 10 then (match args with
  | [PV.v (Value.int .i32 n)] => some (.val (pCls n) m)
  | _ => none) else next g args m
theorem obHook_ok {next : CallR} (hn : CallOk Try.prog next) : CallOk Try.prog (obHook next) := by
  intro g args m r h
  unfold obHook at h
  split at h
  · rename_i hg
    subst hg
    split at h
    · rename_i n
      cases h
      exact ACallsZ.mono (counter_any n m) (fun _ _ h => h) (fun _ _ h => h)
    · cases h
  · exact hn _ _ _ _ h
end Go.Proofs.Ytmcajiccepgagaa
