/-
  ClocksWhens: the looks, run.
-/
import Derived.Test.YtamdnlnoioglnaaCkW
import Derived.Test.YtamdnlnoioglnaaAbCloI
import Derived.Test.YtamdnlnoioglnaaAw9
set_option linter.unusedVariables false
set_option linter.unusedSimpArgs false
namespace Go.Proofs.Ytamdnlnoioglnaa
open Go
set_option maxRecDepth 100000

def whE (c : Str) (e : Ex) : Ex := .mk 12 0 0 wC [c] [e] 0 0
def mgE (e : Ex) : Ex := .mk 13 0 0 wC [wT, wN] [e, .mk 1 0 0 wZ [] [] 0 0] 0 0
def bsE (w : Bool) : Ex := if w then .mk 4 0 0 wW [] [] 0 0 else .mk 1 0 1 wZ [] [] 0 0
def PG (e : Ex) : PV := .ag [.sl .no [], .sl .no [(plN (progOf (mgE e)) 0).1.pv]]
theorem PG_pure (e : Ex) : ∀ x ∈ [PG e], x.pure = true := fun x hx => by
  rw [List.mem_singleton] at hx
  subst hx
  rfl
/-- Right. -/
def Rt (e : Ex) : Prop := (∀ m, ACalls Try.prog 7 [PG e] m (fun v m' => v = .v .nilIface ∧ m' = m)) ∧ (∀ m, ACalls Try.prog 12 [PG e] m (fun v m' => ∃ l c, v = .tp [.v (.bool false), .ag [.v (.int .i64 l), .v (.int .i64 c)]] ∧ m' = m))
/-- Wrong. -/
def Wr (e : Ex) : Prop := ∃ t, (∀ m, ACalls Try.prog 7 [PG e] m (fun v m' => v = .ifc t .junk ∧ m' = m)) ∧ (∀ m, ACalls Try.prog 12 [PG e] m (fun v m' => ∃ l c, v = .tp [.v (.bool true), .ag [.v (.int .i64 l), .v (.int .i64 c)]] ∧ m' = m))
theorem rt_of {e : Ex} (h1 : eIs Try.prog mus (slcHook Try.prog isHook) 300 7 [PG e] = some (.v .nilIface)) (h2 : eTpB Try.prog mus (slcHook Try.prog isHook) 300 12 [PG e] = some false) : Rt e :=
  ⟨fun m => ACalls.ranP ok_mix (slcHook_ok isHook_ok) h1 (PG_pure e) rfl m ⟨rfl, rfl⟩, fun m => ACalls.ranB ok_mix (slcHook_ok isHook_ok) h2 (PG_pure e) m⟩
theorem wr_of {e : Ex} {t : TypeId} (h1 : eIfc Try.prog mus (slcHook Try.prog isHook) 300 7 [PG e] = some t) (h2 : eTpB Try.prog mus (slcHook Try.prog isHook) 300 12 [PG e] = some true) : Wr e :=
  ⟨t, fun m => ACalls.ranI ok_mix (slcHook_ok isHook_ok) h1 (PG_pure e) m, fun m => ACalls.ranB ok_mix (slcHook_ok isHook_ok) h2 (PG_pure e) m⟩
theorem rt0 : Rt (bsE false) := rt_of (by kernel_rfl) (by kernel_rfl)
theorem rt1 : Rt (bsE true) := rt_of (by kernel_rfl) (by kernel_rfl)
theorem rt2 : Rt (whE wT (bsE false)) := rt_of (by kernel_rfl) (by kernel_rfl)
theorem wr0 : Wr (whE wT (bsE true)) := wr_of (t := 121) (by kernel_rfl) (by kernel_rfl)
theorem wr1 (w : Bool) : Wr (whE wN (bsE w)) := by
  cases w
  · exact wr_of (t := 121) (by kernel_rfl) (by kernel_rfl)
  · exact wr_of (t := 121) (by kernel_rfl) (by kernel_rfl)
theorem wr2 (c : Str) (e : Ex) : Wr (whE wT (whE c e)) := wr_of (t := 121) (by kernel_rfl) (by kernel_rfl)
theorem wr3 (c : Str) (e : Ex) : Wr (whE wN (whE c e)) := wr_of (t := 121) (by kernel_rfl) (by kernel_rfl)
end Go.Proofs.Ytamdnlnoioglnaa
