/-
  Texts of clite's expressions: what they are, and that they can be read back.
-/
import Derived.Test.YtepjjgnkhcjpcaaDoorCeEx
import Derived.Lib.ItoaNum
set_option linter.unusedVariables false
set_option linter.unusedSimpArgs false
namespace Go.Proofs.YtepjjgnkhcjpcaaDoor
open Go

abbrev Bs := List UInt8
def dg3 (n : Nat) : Bs := if n < 10 then [UInt8.ofNat (48 + n)] else if n < 100 then [UInt8.ofNat (48 + n / 10), UInt8.ofNat (48 + n % 10)] else [UInt8.ofNat (48 + n / 10 / 10), UInt8.ofNat (48 + n / 10 % 10), UInt8.ofNat (48 + n % 10)]
theorem dec_dg3 {n : Nat} (h : n < 1000) : Lib.decDigits n = dg3 n := by
  unfold dg3
  split
  · rename_i h1; exact Lib.decDigits_one h1
  · rename_i h1
    split
    · rename_i h2; exact Lib.decDigits_two h1 h2
    · rename_i h2
      rw [Lib.decDigits, dif_neg h1, Lib.decDigits_two (by omega) (by omega)]; rfl
def isDg (c : UInt8) : Bool := 48 ≤ c && c ≤ 57
def valD (l : Bs) : Int := l.foldl (fun a c => a * 10 + ((c.toNat : Int) - 48)) 0
theorem dg3_ok : ∀ n : Fin 160, (dg3 n.val).all isDg = true ∧ valD (dg3 n.val) = (n.val : Int) ∧ dg3 n.val ≠ [] := by decide +kernel
/-- What an operator is written as. -/
def sgn : Nat → Bs
  | 1 => [33] | 2 => [110, 101, 103] | 3 => [97, 100, 100] | 4 => [115, 117, 98] | 5 => [109, 117, 108] | 6 => [100, 105, 118] | 7 => [109, 111, 100]
  | 8 => [38, 38] | 9 => [124, 124] | 10 => [120, 111, 114] | 11 => [61, 61] | 12 => [33, 61] | 13 => [60] | 14 => [60, 61] | 15 => [62] | 16 => [62, 61] | _ => [63]
def fnO (o : Nat) : Bool := o == 6 || o == 7 || o == 3 || o == 4 || o == 5 || o == 10
/-- A text out of its parts' texts. -/
def txK (k o n : Int) (nm : Str) (l : List Bs) : Bs :=
  if k = 1 then (if n < 0 then [40] ++ Lib.itoa n ++ [41] else Lib.itoa n)
  else if k = 2 then nm.data.toList
  else if k = 3 then [115, 101, 108, 102, 45, 62] ++ nm.data.toList
  else if k = 4 then (if o = 2 then [110, 101, 103, 40] ++ l.getD 0 [] ++ [41] else [40] ++ sgn o.toNat ++ l.getD 0 [] ++ [41])
  else if k = 5 then (if fnO o.toNat = true then sgn o.toNat ++ [40] ++ l.getD 0 [] ++ [44, 32] ++ l.getD 1 [] ++ [41] else [40] ++ l.getD 0 [] ++ [32] ++ sgn o.toNat ++ [32] ++ l.getD 1 [] ++ [41])
  else [40] ++ l.getD 0 [] ++ [32, 63, 32] ++ l.getD 1 [] ++ [32, 58, 32] ++ l.getD 2 [] ++ [41]
mutual
def CE.txt : CE → Bs
  | .mk k o n nm ks => txK k o n nm (CE.txts ks)
def CE.txts : List CE → List Bs
  | [] => []
  | e :: l => e.txt :: CE.txts l
end
theorem CE.txts_eq (l : List CE) : CE.txts l = l.map CE.txt := by
  induction l with
  | nil => rfl
  | cons e l ih => simp [CE.txts, ih]
theorem CE.txt_eq (e : CE) : e.txt = txK e.kind e.op e.n e.name (e.kids.map CE.txt) := by cases e; simp [CE.txt, CE.txts_eq, CE.kind, CE.op, CE.n, CE.name, CE.kids]
/-- How many parts an expression of a kind has. -/
def wantK (k : Int) : Int := if k = 4 then 1 else if k = 5 then 2 else if k = 6 then 3 else if k = 0 then -1 else 0
mutual
def CE.plain : CE → Bool
  | .mk k o n nm ks => decide (k < 7) && ((ks.length : Int) == wantK k) && CE.plains ks
def CE.plains : List CE → Bool
  | [] => true
  | e :: l => e.plain && CE.plains l
end
abbrev eS : Str := ⟨#[]⟩
/-- Expressions that are made. -/
inductive TX : Nat → CE → Prop
  | num (d n) : -100 ≤ n → n ≤ 155 → TX d (.mk 1 0 n eS [])
  | loc (d t) : t < 4 → TX d (.mk 2 0 0 (⟨#[118]⟩ ++ strOf [((97 + t : Nat) : Int)]) [])
  | fld (d nm) : (nm = ⟨#[102, 97]⟩ ∨ nm = ⟨#[102, 98]⟩ ∨ nm = ⟨#[112]⟩ ∨ nm = ⟨#[110, 111]⟩) → TX d (.mk 3 0 0 nm [])
  | un (d) (t : Nat) (a) : 1 ≤ t → t ≤ 2 → TX d a → TX (d + 1) (.mk 4 t 0 eS [a])
  | cond (d a b c) : TX d a → TX d b → TX d c → TX (d + 1) (.mk 6 0 0 eS [a, b, c])
  | bin (d) (u : Nat) (a b) : 3 ≤ u → u ≤ 16 → TX d a → TX d b → TX (d + 1) (.mk 5 u 0 eS [a, b])
  | odd (d) (t : Nat) : t < 9 → TX (d + 1) (.mk t 0 0 eS [.mk 1 0 1 eS []])
/-- Reading a text. -/
def strip : Bs → Bs → Option Bs
  | [], l => some l
  | _ :: _, [] => none
  | c :: p, d :: l => if c = d then strip p l else none
def rdNum (neg : Bool) (t : Bs) : Option (CE × Bs) :=
  if neg = true then (strip [41] (t.dropWhile isDg)).map fun r => (.mk 1 0 (-(valD (t.takeWhile isDg))) eS [], r)
  else some (.mk 1 0 (valD (t.takeWhile isDg)) eS [], t.dropWhile isDg)
abbrev Rd := Bs → Option (CE × Bs)
def rdUn (R : Rd) (o : Int) (t : Bs) : Option (CE × Bs) := (R t).bind fun p => (strip [41] p.2).map fun r => (.mk 4 o 0 eS [p.1], r)
def rdFn (R : Rd) (o : Int) (t : Bs) : Option (CE × Bs) := (R t).bind fun p => (strip [44, 32] p.2).bind fun t2 => (R t2).bind fun q => (strip [41] q.2).map fun r => (.mk 5 o 0 eS [p.1, q.1], r)
def rdIn (R : Rd) (a : CE) (o : Int) (t : Bs) : Option (CE × Bs) := (R t).bind fun q => (strip [41] q.2).map fun r => (.mk 5 o 0 eS [a, q.1], r)
def rdCo (R : Rd) (a : CE) (t : Bs) : Option (CE × Bs) := (R t).bind fun p => (strip [32, 58, 32] p.2).bind fun t2 => (R t2).bind fun q => (strip [41] q.2).map fun r => (.mk 6 0 0 eS [a, p.1, q.1], r)
def firstO (l : List (Bs × (Bs → Option (CE × Bs)))) (t : Bs) (z : Option (CE × Bs)) : Option (CE × Bs) := match l with
  | [] => z
  | (p, f) :: l => match strip p t with
    | some r => f r
    | none => firstO l t z
def rdBr (R : Rd) (t : Bs) : Option (CE × Bs) := (R t).bind fun p => firstO
  [([32, 63, 32], rdCo R p.1), ([32, 38, 38, 32], rdIn R p.1 8), ([32, 124, 124, 32], rdIn R p.1 9), ([32, 61, 61, 32], rdIn R p.1 11), ([32, 33, 61, 32], rdIn R p.1 12), ([32, 60, 32], rdIn R p.1 13), ([32, 60, 61, 32], rdIn R p.1 14), ([32, 62, 32], rdIn R p.1 15), ([32, 62, 61, 32], rdIn R p.1 16)] p.2 none
def rdF (nm : Str) (t : Bs) : Option (CE × Bs) := some (.mk 3 0 0 nm [], t)
def rdV (k : Nat) (t : Bs) : Option (CE × Bs) := some (.mk 2 0 0 (⟨#[118]⟩ ++ strOf [((97 + k : Nat) : Int)]) [], t)
def rdT (R : Rd) : List (Bs × (Bs → Option (CE × Bs))) :=
  [([40, 45], rdNum true), ([40, 33], rdUn R 1), ([40, 63], rdUn R 0), ([40], rdBr R), ([110, 101, 103, 40], rdUn R 2), ([97, 100, 100, 40], rdFn R 3), ([115, 117, 98, 40], rdFn R 4), ([109, 117, 108, 40], rdFn R 5), ([100, 105, 118, 40], rdFn R 6), ([109, 111, 100, 40], rdFn R 7), ([120, 111, 114, 40], rdFn R 10),
   ([118, 97], rdV 0), ([118, 98], rdV 1), ([118, 99], rdV 2), ([118, 100], rdV 3), ([115, 101, 108, 102, 45, 62, 102, 97], rdF ⟨#[102, 97]⟩), ([115, 101, 108, 102, 45, 62, 102, 98], rdF ⟨#[102, 98]⟩), ([115, 101, 108, 102, 45, 62, 112], rdF ⟨#[112]⟩), ([115, 101, 108, 102, 45, 62, 110, 111], rdF ⟨#[110, 111]⟩)]
def rdE : Nat → Rd
  | 0 => fun _ => none
  | f + 1 => fun t => firstO (rdT (rdE f)) t (rdNum false t)
/-- What may stand behind an expression. -/
def Stop (r : Bs) : Prop := r = [] ∨ ∃ c t, r = c :: t ∧ isDg c = false
theorem take_dg {l r : Bs} (hl : l.all isDg = true) (hr : Stop r) : (l ++ r).takeWhile isDg = l ∧ (l ++ r).dropWhile isDg = r := by
  induction l with
  | nil =>
    rcases hr with rfl | ⟨c, t, rfl, hc⟩
    · exact ⟨rfl, rfl⟩
    · simp [hc]
  | cons a l ih =>
    rw [List.all_cons, Bool.and_eq_true] at hl
    obtain ⟨h1, h2⟩ := ih hl.2
    simp [hl.1, h1, h2]
theorem strip_app (p l : Bs) : strip p (p ++ l) = some l := by
  induction p with
  | nil => cases l <;> rfl
  | cons c p ih => simp [strip, ih]
/-- The first sign of a text. -/
def hdOk (c : UInt8) : Bool := c != 45 && c != 33 && c != 63 && c != 41 && c != 32
theorem dg3_cons (n : Fin 160) : ∃ c t, dg3 n.val = c :: t ∧ isDg c = true := by
  obtain ⟨h1, _, h3⟩ := dg3_ok n
  cases h : dg3 n.val with
  | nil => exact absurd h h3
  | cons c t => rw [h, List.all_cons, Bool.and_eq_true] at h1; exact ⟨c, t, rfl, h1.1⟩
theorem dg_hd {c : UInt8} (h : isDg c = true) : hdOk c = true ∧ c ≠ 40 ∧ c ≠ 110 ∧ c ≠ 97 ∧ c ≠ 115 ∧ c ≠ 109 ∧ c ≠ 100 ∧ c ≠ 120 ∧ c ≠ 118 := by
  have key : ∀ k : Fin 256, isDg (UInt8.ofNat k.val) = true → hdOk (UInt8.ofNat k.val) = true ∧ UInt8.ofNat k.val ≠ 40 ∧ UInt8.ofNat k.val ≠ 110 ∧ UInt8.ofNat k.val ≠ 97 ∧ UInt8.ofNat k.val ≠ 115 ∧ UInt8.ofNat k.val ≠ 109 ∧ UInt8.ofNat k.val ≠ 100 ∧ UInt8.ofNat k.val ≠ 120 ∧ UInt8.ofNat k.val ≠ 118 := by decide +kernel
  have := key ⟨c.toNat, c.toNat_lt⟩ (by simpa using h)
  simpa using this
theorem itoa_pos {n : Int} (h0 : ¬ n < 0) (h1 : n ≤ 155) : ∃ k : Fin 160, Lib.itoa n = dg3 k.val ∧ (k.val : Int) = n := by
  refine ⟨⟨n.toNat, by omega⟩, ?_, by simp; omega⟩
  unfold Lib.itoa
  rw [if_neg h0, dec_dg3 (by omega)]
theorem itoa_neg {n : Int} (h0 : n < 0) (h1 : -100 ≤ n) : ∃ k : Fin 160, Lib.itoa n = 45 :: dg3 k.val ∧ -(k.val : Int) = n := by
  refine ⟨⟨n.natAbs, by omega⟩, ?_, by simp; omega⟩
  unfold Lib.itoa
  rw [if_pos h0, dec_dg3 (by omega)]
theorem txt_hd : ∀ {d : Nat} {e : CE}, TX d e → e.plain = true → ∃ c t, e.txt = c :: t ∧ hdOk c = true := by
  intro d e h hp
  cases h with
  | num d n h0 h1 =>
    show ∃ c t, (if n < 0 then [40] ++ Lib.itoa n ++ [41] else Lib.itoa n) = c :: t ∧ _
    by_cases hn : n < 0
    · rw [if_pos hn]; exact ⟨40, _, rfl, by decide⟩
    · rw [if_neg hn]
      obtain ⟨k, hk, _⟩ := itoa_pos hn h1
      obtain ⟨c, t, h2, h3⟩ := dg3_cons k
      exact ⟨c, t, by rw [hk, h2], (dg_hd h3).1⟩
  | loc d t ht => exact ⟨118, _, rfl, by decide⟩
  | fld d nm hn => exact ⟨115, _, rfl, by decide⟩
  | un d t a h0 h1 ha =>
    have : t = 1 ∨ t = 2 := by omega
    rcases this with rfl | rfl
    · exact ⟨40, _, rfl, by decide⟩
    · exact ⟨110, _, rfl, by decide⟩
  | cond d a b c ha hb hc => exact ⟨40, _, rfl, by decide⟩
  | bin d u a b h0 h1 ha hb =>
    have : u = 3 ∨ u = 4 ∨ u = 5 ∨ u = 6 ∨ u = 7 ∨ u = 8 ∨ u = 9 ∨ u = 10 ∨ u = 11 ∨ u = 12 ∨ u = 13 ∨ u = 14 ∨ u = 15 ∨ u = 16 := by omega
    rcases this with rfl | rfl | rfl | rfl | rfl | rfl | rfl | rfl | rfl | rfl | rfl | rfl | rfl | rfl <;> (refine ⟨_, _, rfl, ?_⟩; decide)
  | odd d t ht =>
    have : t = 0 ∨ t = 1 ∨ t = 2 ∨ t = 3 ∨ t = 4 ∨ t = 5 ∨ t = 6 ∨ t = 7 ∨ t = 8 := by omega
    rcases this with rfl | rfl | rfl | rfl | rfl | rfl | rfl | rfl | rfl <;> first | exact ⟨40, _, rfl, by decide⟩ | (exfalso; revert hp; decide)
theorem stop1 (c : UInt8) (t : Bs) (h : isDg c = false) : Stop (c :: t) := .inr ⟨c, t, rfl, h⟩
theorem plain_mk {k o n : Int} {nm : Str} {ks : List CE} (h : (CE.mk k o n nm ks).plain = true) : k < 7 ∧ (ks.length : Int) = wantK k ∧ CE.plains ks = true := by
  simp only [CE.plain, Bool.and_eq_true, decide_eq_true_eq, beq_iff_eq] at h
  exact ⟨h.1.1, h.1.2, h.2⟩
theorem rd_num {R : Rd} {n : Int} {r : Bs} (h0 : -100 ≤ n) (h1 : n ≤ 155) (hr : Stop r) : firstO (rdT R) ((CE.mk 1 0 n eS []).txt ++ r) (rdNum false ((CE.mk 1 0 n eS []).txt ++ r)) = some (.mk 1 0 n eS [], r) := by
  show firstO (rdT R) ((if n < 0 then [40] ++ Lib.itoa n ++ [41] else Lib.itoa n) ++ r) (rdNum false ((if n < 0 then [40] ++ Lib.itoa n ++ [41] else Lib.itoa n) ++ r)) = _
  by_cases hn : n < 0
  · rw [if_pos hn]
    obtain ⟨k, hk, hkn⟩ := itoa_neg hn h0
    obtain ⟨d1, d2, _⟩ := dg3_ok k
    have e : [40] ++ Lib.itoa n ++ [41] ++ r = [40, 45] ++ (dg3 k.val ++ 41 :: r) := by rw [hk]; simp
    rw [e]
    unfold rdT firstO
    rw [strip_app]
    show rdNum true _ = _
    unfold rdNum
    obtain ⟨t1, t2⟩ := take_dg d1 (stop1 41 r (by decide))
    rw [if_pos rfl, t1, t2, show strip [41] (41 :: r) = some r from strip_app [41] r, d2, hkn]
    rfl
  · rw [if_neg hn]
    obtain ⟨k, hk, hkn⟩ := itoa_pos hn h1
    obtain ⟨d1, d2, _⟩ := dg3_ok k
    obtain ⟨c, t, h2, h3⟩ := dg3_cons k
    obtain ⟨_, n1, n2, n3, n4, n5, n6, n7, n8⟩ := dg_hd h3
    have hq : ∀ z, firstO (rdT R) (c :: (t ++ r)) z = z := fun z => by
      simp only [rdT, firstO, strip, n1.symm, n2.symm, n3.symm, n4.symm, n5.symm, n6.symm, n7.symm, n8.symm, if_false]
    obtain ⟨t1, t2⟩ := take_dg d1 hr
    rw [hk]
    have e : dg3 k.val ++ r = c :: (t ++ r) := by rw [h2]; rfl
    conv => lhs; arg 2; rw [e]
    rw [hq]
    unfold rdNum
    rw [if_neg (by simp), t1, t2, d2, hkn]
theorem rd_br {R : Rd} {c : UInt8} {t : Bs} {z : Option (CE × Bs)} (h : hdOk c = true) : firstO (rdT R) (40 :: c :: t) z = rdBr R (c :: t) := by
  have h1 : c ≠ 45 ∧ c ≠ 33 ∧ c ≠ 63 := by
    simp only [hdOk, Bool.and_eq_true, bne_iff_ne, ne_eq] at h
    exact ⟨h.1.1.1.1, h.1.1.1.2, h.1.1.2⟩
  simp only [rdT, firstO, strip, h1.1.symm, h1.2.1.symm, h1.2.2.symm, if_true, if_false]
theorem rd_txt : ∀ {d : Nat} {e : CE}, TX d e → e.plain = true → ∀ r, Stop r → rdE (d + 1) (e.txt ++ r) = some (e, r) := by
  intro d
  induction d with
  | zero =>
    intro e h hp r hr
    cases h with
    | num d n h0 h1 => exact rd_num h0 h1 hr
    | loc d t ht =>
      have : t = 0 ∨ t = 1 ∨ t = 2 ∨ t = 3 := by omega
      rcases this with rfl | rfl | rfl | rfl <;> rfl
    | fld d nm hn => rcases hn with rfl | rfl | rfl | rfl <;> rfl
  | succ d ih =>
    intro e h hp r hr
    have hE : ∀ t, rdE (d + 1 + 1) t = firstO (rdT (rdE (d + 1))) t (rdNum false t) := fun t => rfl
    rw [hE]
    have ih : ∀ {e : CE}, TX d e → e.plain = true → ∀ c t, isDg c = false → rdE (d + 1) (e.txt ++ c :: t) = some (e, c :: t) := fun h1 h2 c t hc => ih h1 h2 _ (stop1 c t hc)
    generalize rdE (d + 1) = R at *
    cases h with
    | num d n h0 h1 => exact rd_num h0 h1 hr
    | loc d t ht =>
      have : t = 0 ∨ t = 1 ∨ t = 2 ∨ t = 3 := by omega
      rcases this with rfl | rfl | rfl | rfl <;> rfl
    | fld d nm hn => rcases hn with rfl | rfl | rfl | rfl <;> rfl
    | un d t a h0 h1 ha =>
      obtain ⟨_, _, hp⟩ := plain_mk hp
      have hpa : a.plain = true := by simpa [CE.plains] using hp
      have ia := ih ha hpa 41 r (by decide)
      have : t = 1 ∨ t = 2 := by omega
      rcases this with rfl | rfl
      · have e : (CE.mk 4 ((1 : Nat) : Int) 0 eS [a]).txt ++ r = 40 :: 33 :: (a.txt ++ 41 :: r) := by simp [CE.txt, CE.txts, txK, sgn]
        rw [e]
        show rdUn R 1 (a.txt ++ 41 :: r) = _
        unfold rdUn
        rw [ia]; rfl
      · have e : (CE.mk 4 ((2 : Nat) : Int) 0 eS [a]).txt ++ r = 110 :: 101 :: 103 :: 40 :: (a.txt ++ 41 :: r) := by simp [CE.txt, CE.txts, txK, sgn]
        rw [e]
        show rdUn R 2 (a.txt ++ 41 :: r) = _
        unfold rdUn
        rw [ia]; rfl
    | cond d a b c ha hb hc =>
      obtain ⟨_, _, hp⟩ := plain_mk hp
      obtain ⟨hpa, hpb, hpc⟩ : a.plain = true ∧ b.plain = true ∧ c.plain = true := by simpa [CE.plains] using hp
      have e : (CE.mk 6 0 0 eS [a, b, c]).txt ++ r = 40 :: (a.txt ++ 32 :: 63 :: 32 :: (b.txt ++ 32 :: 58 :: 32 :: (c.txt ++ 41 :: r))) := by simp [CE.txt, CE.txts, txK]
      obtain ⟨x, t, hx, hxo⟩ := txt_hd ha hpa
      have ia := ih ha hpa 32 (63 :: 32 :: (b.txt ++ 32 :: 58 :: 32 :: (c.txt ++ 41 :: r))) (by decide)
      have ib := ih hb hpb 32 (58 :: 32 :: (c.txt ++ 41 :: r)) (by decide)
      have ic := ih hc hpc 41 r (by decide)
      rw [e]
      have hbr := rd_br (R := R) (t := t ++ 32 :: 63 :: 32 :: (b.txt ++ 32 :: 58 :: 32 :: (c.txt ++ 41 :: r))) (z := rdNum false (40 :: (a.txt ++ 32 :: 63 :: 32 :: (b.txt ++ 32 :: 58 :: 32 :: (c.txt ++ 41 :: r))))) hxo
      rw [← List.cons_append, ← hx] at hbr
      rw [hbr]
      unfold rdBr
      rw [ia]
      show rdCo R a (b.txt ++ _) = _
      unfold rdCo
      rw [ib]
      show (R (c.txt ++ 41 :: r)).bind _ = _
      rw [ic]; rfl
    | bin d u a b h0 h1 ha hb =>
      obtain ⟨_, _, hp⟩ := plain_mk hp
      obtain ⟨hpa, hpb⟩ : a.plain = true ∧ b.plain = true := by simpa [CE.plains] using hp
      have hin : ∀ (o : List UInt8), fnO u = false → sgn u = o → (CE.mk 5 (u : Int) 0 eS [a, b]).txt ++ r = 40 :: (a.txt ++ 32 :: (o ++ 32 :: (b.txt ++ 41 :: r))) := fun o hf ho => by
        simp [CE.txt, CE.txts, txK, hf, ho]
      have hfn : ∀ (o : List UInt8), fnO u = true → sgn u = o → (CE.mk 5 (u : Int) 0 eS [a, b]).txt ++ r = o ++ 40 :: (a.txt ++ 44 :: 32 :: (b.txt ++ 41 :: r)) := fun o hf ho => by
        simp [CE.txt, CE.txts, txK, hf, ho]
      have ib := ih hb hpb 41 r (by decide)
      have ja := ih ha hpa 44 (32 :: (b.txt ++ 41 :: r)) (by decide)
      have fin1 : ∀ o : Int, rdFn R o (a.txt ++ 44 :: 32 :: (b.txt ++ 41 :: r)) = some (.mk 5 o 0 eS [a, b], r) := fun o => by
        unfold rdFn
        rw [ja]
        show (R (b.txt ++ 41 :: r)).bind _ = _
        rw [ib]; rfl
      have fin2 : ∀ o : Int, rdIn R a o (b.txt ++ 41 :: r) = some (.mk 5 o 0 eS [a, b], r) := fun o => by
        unfold rdIn
        rw [ib]; rfl
      obtain ⟨x, t, hx, hxo⟩ := txt_hd ha hpa
      have hbr : ∀ (o : Bs) z, firstO (rdT R) (40 :: (a.txt ++ 32 :: (o ++ 32 :: (b.txt ++ 41 :: r)))) z = rdBr R (a.txt ++ 32 :: (o ++ 32 :: (b.txt ++ 41 :: r))) := fun o z => by
        rw [hx]; exact rd_br hxo
      have ia : ∀ o : Bs, R (a.txt ++ 32 :: (o ++ 32 :: (b.txt ++ 41 :: r))) = some (a, 32 :: (o ++ 32 :: (b.txt ++ 41 :: r))) := fun o => ih ha hpa 32 _ (by decide)
      have : u = 3 ∨ u = 4 ∨ u = 5 ∨ u = 6 ∨ u = 7 ∨ u = 8 ∨ u = 9 ∨ u = 10 ∨ u = 11 ∨ u = 12 ∨ u = 13 ∨ u = 14 ∨ u = 15 ∨ u = 16 := by omega
      rcases this with rfl | rfl | rfl | rfl | rfl | rfl | rfl | rfl | rfl | rfl | rfl | rfl | rfl | rfl <;>
        first
          | (rw [hfn _ rfl rfl]; exact fin1 _)
          | (rw [hin _ rfl rfl, hbr]; unfold rdBr; rw [ia]; exact fin2 _)
    | odd d t ht =>
      have : t = 0 ∨ t = 1 ∨ t = 2 ∨ t = 3 ∨ t = 4 ∨ t = 5 ∨ t = 6 ∨ t = 7 ∨ t = 8 := by omega
      rcases this with rfl | rfl | rfl | rfl | rfl | rfl | rfl | rfl | rfl <;> first | (exfalso; revert hp; decide) | skip
      have h1 := TX.num d 1 (by omega) (by omega)
      have i1 := ih h1 (by decide) 41 r (by decide)
      have e : (CE.mk ((4 : Nat) : Int) 0 0 eS [.mk 1 0 1 eS []]).txt ++ r = 40 :: 63 :: ((CE.mk 1 0 1 eS []).txt ++ 41 :: r) := by simp [CE.txt, CE.txts, txK, sgn]
      rw [e]
      show rdUn R 0 ((CE.mk 1 0 1 eS []).txt ++ 41 :: r) = _
      unfold rdUn
      rw [i1]; rfl
/-- Unlike expressions have unlike texts. -/
theorem txt_inj {d : Nat} {a b : CE} (ha : TX d a) (hb : TX d b) (pa : a.plain = true) (pb : b.plain = true) (h : a.txt = b.txt) : a = b := by
  have h1 := rd_txt ha pa [] (.inl rfl)
  have h2 := rd_txt hb pb [] (.inl rfl)
  rw [h, h2] at h1
  exact (Prod.mk.inj (Option.some.inj h1)).1.symm
end Go.Proofs.YtepjjgnkhcjpcaaDoor
