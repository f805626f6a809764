/-
 The names that the maker makes are unlike one another.
-/
-- halved
import Derived.Test.YteiaedmipkcfeaaDoorMkH
set_option linter.unusedVariables false
set_option linter.unusedSimpArgs false
namespace Go.Proofs.YteiaedmipkcfeaaDoor
open Go

theorem app_bytes (a b : Str) : (a ++ b).data.toList = a.data.toList ++ b.data.toList := by simp
def dec (l : List UInt8) : Nat := l.foldl (fun a b => a * 10 + (b.toNat - 48)) 0
theorem dec_app (l : List UInt8) (b : UInt8) : dec (l ++ [b]) = dec l * 10 + (b.toNat - 48) := by unfold dec; rw [List.foldl_append]; rfl
theorem strOf_one (n : Int) : (strOf [n]).data.toList = [UInt8.ofNat n.toNat] := rfl
theorem dig_byte (n : Nat) (h : n < 10) : (UInt8.ofNat ((48 + n : Nat) : Int).toNat).toNat - 48 = n := by
 rw [Int.toNat_natCast, UInt8.toNat_ofNat']
 omega
theorem dec_digS (n : Nat) : dec (digS n).data.toList = n := by
 induction n using Nat.strongRecOn with
 | ind n ih =>
  rw [digS]
  split
  ·rename_i h
   rw [strOf_one]
   show 0 * 10 + _ = n
   rw [dig_byte n h]; omega
  ·rename_i h
   rw [app_bytes, strOf_one, dec_app, ih (n / 10) (by omega), dig_byte (n % 10) (by omega)]
   omega
theorem digS_inj {a b : Nat} (h : digS a = digS b) : a = b := by rw [← dec_digS a, h, dec_digS]
theorem digS_pos (n : Nat) : 0 < (digS n).data.toList.length := by
 rw [digS]
 split
 ·rw [strOf_one]; simp
 ·rw [app_bytes, strOf_one]; simp
/-- A name of one letter and a number. -/
def isNm (s : Str) (k : Nat) : Prop := ∃ c : UInt8, s = nameS ⟨#[c]⟩ k
theorem nm_bytes (c : UInt8) (k : Nat) : (nameS ⟨#[c]⟩ k).data.toList = c :: (digS k).data.toList := by
 unfold nameS; rw [app_bytes]; rfl
theorem nm_inj {c c' : UInt8} {k k' : Nat} (h : nameS ⟨#[c]⟩ k = nameS ⟨#[c']⟩ k') : c = c' ∧ k = k' := by
 have hb := congrArg (fun s : Str => s.data.toList) h
 simp only [nm_bytes, List.cons.injEq] at hb
 exact ⟨hb.1, digS_inj (ByteArray.ext (Array.ext' hb.2))⟩
theorem isNm_inj {s : Str} {k k' : Nat} (h : isNm s k) (h' : isNm s k') : k = k' := by
 obtain ⟨c, rfl⟩ := h
 obtain ⟨c', h'⟩ := h'
 exact (nm_inj h').2
theorem isNm_of (c : UInt8) (k : Nat) : isNm (nameS ⟨#[c]⟩ k) k := ⟨c, rfl⟩
/-- A name of one letter is none of these. -/
theorem isNm_len {s : Str} {k : Nat} (h : isNm s k) : 2 ≤ s.data.toList.length := by
 obtain ⟨c, rfl⟩ := h
 rw [nm_bytes]
 have := digS_pos k
 simp only [List.length_cons]
 omega
theorem not_nm {c : UInt8} {k : Nat} : ¬ isNm ⟨#[c]⟩ k := fun h => by have := isNm_len h; simp at this

/-- Variables whose names are made between two counts, in their order. -/
def Inc : Nat → Nat → List Va → Prop
 | n, n', [] => n ≤ n'
 | n, n', v :: l => ∃ k, n < k ∧ isNm v.name k ∧ Inc k n' l
theorem Inc.le : ∀ {l : List Va} {n n' : Nat}, Inc n n' l → n ≤ n'
 | [], n, n', h => h
 | v :: l, n, n', ⟨k, h1, _, h2⟩ => by have := Inc.le h2; omega
theorem Inc.mono {m : Nat} : ∀ {l : List Va} {n n' : Nat}, Inc n n' l → m ≤ n → Inc m n' l
 | [], n, n', h, hm => Nat.le_trans hm h
 | v :: l, n, n', ⟨k, h1, h3, h2⟩, hm => ⟨k, by omega, h3, h2⟩
theorem Inc.app : ∀ {a b : List Va} {n n1 n' : Nat}, Inc n n1 a → Inc n1 n' b → Inc n n' (a ++ b)
 | [], b, n, n1, n', h, hb => hb.mono h
 | v :: a, b, n, n1, n', ⟨k, h1, h3, h2⟩, hb => ⟨k, h1, h3, h2.app hb⟩
theorem Inc.len : ∀ {l : List Va} {n n' : Nat}, Inc n n' l → l.length ≤ n' - n
 | [], n, n', h => Nat.zero_le _
 | v :: l, n, n', ⟨k, h1, h3, h2⟩ => by
  have := Inc.len h2
  have := Inc.le h2
  simp only [List.length_cons]
  omega
theorem Inc.nm : ∀ {l : List Va} {n n' : Nat}, Inc n n' l → ∀ v ∈ l, ∃ k, n < k ∧ k ≤ n' ∧ isNm v.name k
 | [], n, n', h, v, hv => by simp at hv
 | w :: l, n, n', ⟨k, h1, h3, h2⟩, v, hv => by
  rcases List.mem_cons.1 hv with rfl | hv
  ·exact ⟨k, h1, h2.le, h3⟩
  ·obtain ⟨j, j1, j2, j3⟩ := Inc.nm h2 v hv
   exact ⟨j, by omega, j2, j3⟩
theorem Inc.nd : ∀ {l : List Va} {n n' : Nat}, Inc n n' l → (l.map Va.name).Nodup
 | [], n, n', h => List.nodup_nil
 | w :: l, n, n', ⟨k, h1, h3, h2⟩ => by
  rw [List.map_cons, List.nodup_cons]
  refine ⟨fun hm => ?_, Inc.nd h2⟩
  obtain ⟨u, hu, he⟩ := List.mem_map.1 hm
  obtain ⟨j, j1, j2, j3⟩ := Inc.nm h2 u hu
  rw [he] at j3
  have := isNm_inj h3 j3
  omega
theorem Inc.own : ∀ {l : List Va} {n : Nat}, GOwn n l → Inc n (n + l.length) l
 | [], n, h => Nat.le_refl _
 | v :: l, n, ⟨h1, h2⟩ => by
  obtain ⟨t, la, e, _, _, rfl⟩ := h1
  refine ⟨n + 1, by omega, isNm_of _ _, ?_⟩
  have := Inc.own h2
  rwa [show n + 1 + l.length = n + (l.length + 1) by omega] at this
theorem chn_le {R : Nat → Nat → Nat → Am → Prop} (hR : ∀ j n n' a, R j n n' a → n ≤ n') : ∀ {l : List Am} {j n n' : Nat}, Chn R j n n' l → n ≤ n'
 | [], j, n, n', h => by cases h; exact Nat.le_refl _
 | a :: l, j, n, n', ⟨n1, h1, h2⟩ => Nat.le_trans (hR _ _ _ _ h1) (chn_le hR h2)
section
variable {RB : RBT} (hRB : ∀ n n' s outs b, RB n n' s outs b → n ≤ n')
include hRB
theorem eqs_inc {subs : Int} {n n' : Nat} {s : Sc} {outs : List Va} {l : List Qu} {vs : List Va} (h : GEqs RB subs n n' s outs l vs) : Inc n n' vs := by
 induction h with
 | defs h => exact Nat.le_refl _
 | choice h =>
  obtain ⟨t, ns, e, ar, _, he, _, hc, rfl⟩ := h
  exact chn_le (fun j n n' a ⟨nm, l, b, _, _, hb, _⟩ => hRB _ _ _ _ _ hb) hc
 | auto h =>
  obtain ⟨nn, ar, _, _, hc, rfl⟩ := h
  exact chn_le (fun j n n' a ⟨l, u, b, w, _, _, _, hb, _, _⟩ => hRB _ _ _ _ _ hb) hc
 | reset h =>
  obtain ⟨e, b, _, hb, rfl⟩ := h
  exact hRB _ _ _ _ _ hb
 | call h _ ih =>
  obtain ⟨k, a, b, hs, e, _, rfl, rfl, _⟩ := h
  exact ⟨_, Nat.lt_succ_self _, isNm_of _ _, _, Nat.lt_succ_self _, isNm_of _ _, ih⟩
 | samp h _ ih =>
  obtain ⟨e1, e2, e3, k1, kp, rfl, rfl, rfl, _⟩ := h
  exact ⟨_, Nat.lt_succ_self _, isNm_of _ _, _, Nat.lt_succ_self _, isNm_of _ _, _, Nat.lt_succ_self _, isNm_of _ _, ih⟩
theorem todo_inc {subs : Int} {n n' : Nat} {s : Sc} {outs : List Va} {l : List Qu} {vs : List Va} (h : GTodo (GEqs RB subs) n n' s outs l vs) : Inc n n' vs := by
 induction h with
 | nil => exact Nat.le_refl _
 | step _ _ h _ ih => exact (eqs_inc hRB h).app ih
theorem blk_inc {subs : Int} {n n' : Nat} {s : Sc} {outs : List Va} {b : Bk} (h : GBlk (GEqs RB subs) n n' s outs b) : Inc n n' b.vars := by
 obtain ⟨own, l, vs, _, ho, h, rfl⟩ := h
 exact (Inc.own ho).app (todo_inc hRB h)
end
theorem bk_le : ∀ (d : Nat) (subs : Int) (n n' : Nat) (s : Sc) (outs : List Va) (b : Bk), GBk d subs n n' s outs b → n ≤ n'
 | 0, subs, n, n', s, outs, b, h => (blk_inc (RB := fun _ _ _ _ _ => False) (fun _ _ _ _ _ h => h.elim) h).le
 | d + 1, subs, n, n', s, outs, b, h => (blk_inc (fun n n' s outs b h => bk_le d subs n n' s outs b h) h).le
theorem bk_inc (d : Nat) (subs : Int) (n n' : Nat) (s : Sc) (outs : List Va) (b : Bk) (h : GBk d subs n n' s outs b) : Inc n n' b.vars := by
 cases d with
 | zero => exact blk_inc (RB := fun _ _ _ _ _ => False) (fun _ _ _ _ _ h => h.elim) h
 | succ d => exact blk_inc (fun n n' s outs b h => bk_le d subs n n' s outs b h) h
end Go.Proofs.YteiaedmipkcfeaaDoor
