/-
  The rest of a law, run on known values.
-/
import Derived.Test.YtepjjgnkhcjpcaaDoorAbRun7
set_option linter.unusedVariables false
set_option linter.unusedSimpArgs false
namespace Go.Proofs.YtepjjgnkhcjpcaaDoor
open Go Go.RowKit

theorem put_fl {b : List PV} {t : _} {d : Nat} {v : PV} (h : d < 4095) : F.put (fl ⟨b, t⟩) (some d) v = fl ⟨b, t.put 12 d v⟩ := eput_fl (by simp only [eput]; rw [if_pos h])
theorem args_fl {args : List PV} : F.args args = fl ⟨args, .nil⟩ := rfl
def eTrueTail (P : Program) (call : CallR) (mu : List Nat) (k : Nat) (c : Code) (env : EN) (m : M) (rs : List ResultVar) : Bool := match eCode P call mu k c env ⟨m, none⟩ with
  | some (.fin .n env' m') => (match eRes P (fl env') m'.m rs with | some [.v (.bool true)] => true | _ => false)
  | some (.fin .r env' m') => (match eRes P (fl env') m'.m rs with | some [.v (.bool true)] => true | _ => false)
  | _ => false
theorem leave_all (m : M) (b : Bool) : Leave M0 m (.v (.bool b)) (.v (.bool b)) M0 := .plain (.v (.bool b)) rfl rfl rfl
theorem aTail {P : Program} {call : CallR} {mu : List Nat} {k : Nat} {c : Code} {env : EN} {m : M} {rs : List ResultVar} (hc : CallOk P call) (h : eTrueTail P call mu k c env m rs = true) :
    aCode P mu noZ c (aPost P rs M0 (fun v m' => v = .v (.bool true))) (fl env) m := by
  have fin : ∀ (f : F) (m' : M), (match eRes P f m' rs with | some [.v (.bool true)] => true | _ => false) = true → aRes P f m' rs (fun vs => ∃ v' m'', Leave M0 m' (pack vs) v' m'' ∧ v' = .v (.bool true)) := fun f m' hq => by
    split at hq
    · rename_i he
      exact eRes_sound rs he ⟨_, _, leave_all m' true, rfl⟩
    · cases hq
  unfold eTrueTail at h
  split at h
  · rename_i env' m' he
    exact eCode_sound hc c he (fin _ _ h)
  · rename_i env' m' he
    exact eCode_sound hc c he (fin _ _ h)
  · cases h
end Go.Proofs.YtepjjgnkhcjpcaaDoor
