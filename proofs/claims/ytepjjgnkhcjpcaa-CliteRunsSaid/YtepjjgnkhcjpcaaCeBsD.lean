/-
  The law's program; what the evaluator does with it.
-/
import Derived.Test.YtepjjgnkhcjpcaaCeG4
set_option linter.unusedVariables false
set_option linter.unusedSimpArgs false
namespace Go.Proofs.Ytepjjgnkhcjpcaa
open Go

def sT : Str := ⟨#[116]⟩
def sS : Str := ⟨#[115]⟩
def sFa : Str := ⟨#[102, 97]⟩
def sFb : Str := ⟨#[102, 98]⟩
def sP : Str := ⟨#[112]⟩
def sAdd : Str := ⟨#[97, 100, 100]⟩
def sN : Str := ⟨#[110]⟩
def sO : Str := ⟨#[111]⟩
def sF : Str := ⟨#[102]⟩
def sVa : Str := ⟨#[118, 97]⟩
def sVb : Str := ⟨#[118, 98]⟩
def sE : Str := ⟨#[]⟩
def progL : List Sr := [⟨sT, [⟨sFa, sE⟩, ⟨sFb, sE⟩]⟩, ⟨sS, [⟨sFa, sE⟩, ⟨sP, sT⟩, ⟨sFb, sE⟩]⟩]
def ceL (s : Str) : CE := .mk 2 0 0 s []
def ceF (s : Str) : CE := .mk 3 0 0 s []
def ceZ : CE := .mk 0 0 0 sE []
def addF : CFn := ⟨sAdd, sT, [sN], [sO], [], [.mk 1 sO sE (ceF sFa) [] [] [] [], .mk 2 sFa sE (.mk 5 3 0 sE [ceL sO, ceL sN]) [] [] [] []]⟩
def progF (body : List CS) : List CFn := [addF, ⟨sF, sS, [sVa], [sVb], [], body⟩]
theorem off_fa : offsetF progL sS sFa = (0, sE) := by
  simp [offsetF, findS, idxF, isSr, progL, offF, kF, sizeF, sumF, ByteArray.toList_eq, sT, sS, sFa, sFb, sP, sE]
theorem off_fb : offsetF progL sS sFb = (3, sE) := by
  simp [offsetF, findS, idxF, isSr, progL, offF, kF, sizeF, sumF, ByteArray.toList_eq, sT, sS, sFa, sFb, sP, sE]
theorem off_p : offsetF progL sS sP = (1, sT) := by
  simp [offsetF, findS, idxF, isSr, progL, offF, kF, sizeF, sumF, ByteArray.toList_eq, sT, sS, sFa, sFb, sP, sE]
theorem offT_fa : offsetF progL sT sFa = (0, sE) := by
  simp [offsetF, findS, idxF, isSr, progL, offF, kF, sizeF, sumF, ByteArray.toList_eq, sT, sS, sFa, sFb, sP, sE]
theorem find_f (body : List CS) : findF (progF body) sF = 1 := by
  simp [findF, idxF, progF, addF, ByteArray.toList_eq, sF, sAdd]
theorem find_add (body : List CS) : findF (progF body) sAdd = 0 := by
  simp [findF, idxF, progF, addF, ByteArray.toList_eq, sF, sAdd]
def bodyB : List CS := [.mk 2 sFb sE (ceL sVa) [] [] [] [], .mk 1 sVb sE (ceF sFb) [] [] [] []]
theorem cellB (base : Int) (k : Nat) (a : Int) (ha : IntKind.i64.wrap (base + 3) = a) (s : CM) (hs : s.mem.length = k) : cellC progL sS base sFb s = if 0 ≤ a ∧ a < k then .ok a.toNat { s with tch := s.tch.set a.toNat true } else .bad 2 s := by
  unfold cellC
  simp only [off_fb, ha, hs]
  have e1 : (sE.toList == (⟨#[]⟩ : ByteArray).toList) = true := by simp [sE]
  by_cases h : 0 ≤ a ∧ a < k
  · rw [if_neg (by rw [e1]; rintro (h | h | h | h) <;> first | omega | cases h), if_pos h]
  · rw [if_pos (by rw [e1]; right; right; omega), if_neg h]
theorem bases_run (base n : Int) (k : Nat) (a : Int) (ha : IntKind.i64.wrap (base + 3) = a) : ∃ left, runC progL (progF bodyB) sF base [n] 100 (List.replicate k 0) (List.replicate k false) =
    if 0 ≤ a ∧ a < k then .ok [n] ⟨(List.replicate k 0).set a.toNat n, (List.replicate k false).set a.toNat true, left⟩ else .bad 2 ⟨List.replicate k 0, List.replicate k false, left⟩ := by
  have hc := fun s hs => cellB base k a ha s hs
  have g1 : (progF bodyB).getD (1 : Int).toNat noFn = ⟨sF, sS, [sVa], [sVb], [], bodyB⟩ := rfl
  have fa : Env.find [(sVa, n)] sVa = some n := by simp [Env.find]
  by_cases h : 0 ≤ a ∧ a < k
  · refine ⟨96, ?_⟩
    have hl : a.toNat < k := by omega
    rw [if_pos h]
    unfold runC
    rw [show (progF bodyB).length = 1 + 1 from rfl, show (maxZ 100).toNat = 100 from rfl, mcallC, find_f, g1]
    rw [if_neg (by simp)]
    have gx : ((List.replicate k 0).set a.toNat n)[a.toNat]?.getD 0 = n := by simp [hl]
    have hne : ¬ (ByteArray.toList sVa = ByteArray.toList sVb) := by simp [sVa, sVb, ByteArray.toList_eq]
    have fb : Env.find [(sVa, n), (sVb, n)] sVb = some n := by simp [Env.find, hne]
    simp [bodyB, stsC, stC, evalC, ceL, ceF, stepC, CRn.bind, Env.puts, Env.put, fa, hc, h, outsC, hne, fb]
  · refine ⟨98, ?_⟩
    rw [if_neg h]
    unfold runC
    rw [show (progF bodyB).length = 1 + 1 from rfl, show (maxZ 100).toNat = 100 from rfl, mcallC, find_f, g1]
    rw [if_neg (by simp)]
    simp [bodyB, stsC, stC, evalC, ceL, ceF, stepC, CRn.bind, Env.puts, Env.put, fa, hc, h]
end Go.Proofs.Ytepjjgnkhcjpcaa
