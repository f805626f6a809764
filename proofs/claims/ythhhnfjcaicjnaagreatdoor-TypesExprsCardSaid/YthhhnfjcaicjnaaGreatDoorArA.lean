/-
 Texts that belong together: TpD, AbTr1, AbTr2, AbTr3, AbTr4, TpA.
-/
-- halved
import Derived.Test.YthhhnfjcaicjnaaGreatDoorQA
import Derived.Test.YthhhnfjcaicjnaaGreatDoorExA
import Derived.Test.YthhhnfjcaicjnaaGreatDoorAbKit
import Derived.Test.YthhhnfjcaicjnaaGreatDoorNW
set_option linter.unusedVariables false
namespace Go.Proofs.YthhhnfjcaicjnaaGreatDoor
open Go
theorem trs_len (l : List Tr) : ∀ x ∈ l.map Tr.pv, x.cells.length = 12 := fun x hx => by
 obtain ⟨s, _, rfl⟩ := List.mem_map.1 hx
 rw [Tr.cells_pv]; rfl

set_option linter.unusedSimpArgs false

set_option maxRecDepth 20000

def smE (a b : En) : Bool := eqS a.name b.name && sameL eqS a.ctors b.ctors
def smT (a b : Tr) : Bool := eqS a.to b.to && (a.resume == b.resume) && a.e.same b.e
abbrev SbT := List Va → List Qu → List Va → List Qu → Bool
def smA (sb : SbT) (a b : Am) : Bool := eqS a.name b.name && sb a.vars a.eqs b.vars b.eqs && sameL smT a.unl b.unl && sameL smT a.til b.til
def smQ (sb : SbT) (a b : Qu) : Bool := (a.kind == b.kind) && sameL eqS a.lhs b.lhs && eqS a.name b.name && sameL Ex.same a.args b.args && (a.has == b.has) && a.e.same b.e && sameL (smA sb) a.arms b.arms
def smB (sb : SbT) : SbT := fun V Q V' Q' => sameL Va.same V V' && sameL (smQ sb) Q Q'
def smF : Nat → SbT
 | 0 => smB (fun _ _ _ _ => false)
 | d + 1 => smB (smF d)
def smN (d : Nat) (a b : No) : Bool := eqS a.name b.name && sameL Va.same a.ins b.ins && sameL Va.same a.outs b.outs && smF d a.b.vars a.b.eqs b.b.vars b.b.eqs
def DpB : Nat → List Qu → Prop
 | 0, Q => ∀ q ∈ Q, q.arms = []
 | d + 1, Q => ∀ q ∈ Q, ∀ a ∈ q.arms, DpB d a.eqs
abbrev bkPV (V : List Va) (Q : List Qu) : PV := .ag [.sl .no (V.map Va.pv), .sl .no (Q.map Qu.pv)]

abbrev prPV (E : List En) (l : List No) : PV := .ag [.sl .no (E.map En.pv), .sl .no (l.map No.pv)]
end Go.Proofs.YthhhnfjcaicjnaaGreatDoor
