/-
  Proved: the law LexBlanks returns true at every input, and its arguments read afterwards as before. No condition.
-/
import Derived.Test.YtijdhfjdnndkmaaRows
import Derived.WalkKit
import Derived.ProofKit
import Derived.OpenShut
import Derived.HandedShaped
import Derived.Shelf.Vars
import Derived.Test.YtijdhfjdnndkmaaLexSame
import Derived.ShutString
import Derived.ChangeOld
import Derived.Below
namespace Go.Proofs.Ytijdhfjdnndkmaa.lexBlanks
open Go.ChangeShapes Go.WideShapes Go.ChangeAt Go.RowKit
open Go.ChangeMaps (open_string shut_string)
set_option linter.unusedVariables false

theorem own : ownKnob Try.prog.godebug = none := by kernel_rfl
theorem laidOut : laidOutB Try.prog = true := by kernel_rfl

/-- WHAT THE WALK IS TOLD OF A SLICE OF INTEGERS THAT CAME IN: it is nil; or it leads to a row of 'cap' cells, the numbers 'zs' (the first 'len' are its elements, the rest its spare room), each fitting its kind. -/
def IsRow (k : IntKind) (w : World) (a : Option Addr) (len cap : Nat) (zs : List Int) : Prop :=
  (a = none ∧ len = 0 ∧ cap = 0 ∧ zs = []) ∨
  ∃ x, a = some x ∧ len ≤ cap ∧ cap ≤ maxLen ∧ zs.length = cap ∧ (∀ i, i < zs.length → w.cell? (x.add i) = some (.int k (zs.getD i 0))) ∧ ∀ n ∈ zs, (Lit.int k n).wf = true

theorem byt_of_row {w : World} {a : Option Addr} {len cap : Nat} {zs : List Int} (h : IsRow .u8 w a len cap zs) : Byt w a len ((zs.take len).map Int.toNat) := by
  rcases h with ⟨rfl, rfl, rfl, rfl⟩ | ⟨x, rfl, hl, _, hz, hc, hw⟩
  · exact ⟨rfl, fun k hk => absurd hk (by simp)⟩
  · refine ⟨by simp; omega, fun k hk => ⟨x, rfl, ?_, ?_⟩⟩
    · have hk2 : k < zs.length := by simp at hk; omega
      rw [hc k hk2]
      have hb := bounds_u8 (hw (zs[k]) (List.getElem_mem hk2))
      simp only [List.getElem_map, List.getElem_take, List.getD_eq_getElem?_getD, List.getElem?_eq_getElem hk2, Option.getD_some]
      rw [Int.toNat_of_nonneg hb.1]
    · have hk2 : k < zs.length := by simp at hk; omega
      have hb := bounds_u8 (hw (zs[k]) (List.getElem_mem hk2))
      simp only [List.getElem_map, List.getElem_take]
      omega
def blanksV : Array Value := ((List.range 6).map fun k => Value.string (blankS k)).toArray
theorem blanksV_at (k : Nat) (hk : k < 6) : blanksV[k]? = some (.string (blankS k)) := by unfold blanksV; simp [hk]
theorem len_of_row {w : World} {a : Option Addr} {len cap : Nat} {zs : List Int} (h : IsRow .u8 w a len cap zs) : len ≤ maxLen := by
  rcases h with ⟨rfl, rfl, rfl, rfl⟩ | ⟨x, rfl, hl, hm, _⟩
  · exact Nat.zero_le _
  · omega
theorem own_len {w : World} {base e size n : Nat} {v : Value} {xs : List Value} (h : w.ownsRow base e size v n xs) : n ≤ maxLen := by
  rcases h.2 with ⟨_, rfl⟩ | ⟨g, cap, cur, _, _, _, h1, h2, _⟩
  · exact Nat.zero_le _
  · omega
theorem tok_cells (l : List Tok) (k : Nat) (hk : k < l.length) (j : Nat) (u : Value) (hj : (l[k].cells)[j]? = some u) : (tokCells l)[k * 5 + j]? = some u := by
  have hj5 : j < 5 := by
    have := (List.getElem?_eq_some_iff.1 hj).1
    simpa [Tok.cells] using this
  induction l generalizing k with
  | nil => simp at hk
  | cons a l ih =>
    have e : tokCells (a :: l) = a.cells ++ tokCells l := rfl
    have e5 : a.cells.length = 5 := rfl
    rw [e]
    cases k with
    | zero => rw [List.getElem?_append_left (by omega)]; simpa using hj
    | succ k =>
      rw [List.getElem?_append_right (by omega), e5, show (k + 1) * 5 + j - 5 = k * 5 + j by omega]
      exact ih k (by simpa using hk) (by simpa using hj)
theorem row_cell {w : World} {B g cap : Nat} {l : List Tok} (h : w.ownsRow B 38 5 (.slice (some ⟨g, 0, none⟩) l.length cap) l.length (tokCells l)) (k : Nat) (hk : k < l.length) (j : Nat) (u : Value) (hj : (l[k].cells)[j]? = some u) :
    w.cell? ⟨g, k * 5 + j, none⟩ = some u := by
  have h1 := h.cells (g := g) rfl _ u (tok_cells l k hk j u hj)
  cases hx : k * 5 + j with
  | zero => rw [hx] at h1; exact h1
  | succ x => rw [hx] at h1; simpa [Addr.add] using h1
set_option maxHeartbeats 2000000 in
theorem walk (a0 : Option Addr) (len0 cap0 : Nat) (z0 : List Int) (a1 : Option Addr) (len1 cap1 : Nat) (z1 : List Int) (w : World) (w0 : IsRow .u8 w a0 len0 cap0 z0) (w1 : IsRow .u8 w a1 len1 cap1 z1) (m : Int) (hm : w.cell? ⟨0, 0, none⟩ = some (.int .i64 m)) :
    Calls Try.prog 4 #[.slice a0 len0 cap0, .slice a1 len1 cap1] w fun e w' => e = .returned (.bool true) ∧ Below w.heap.size w w' := by
  have h0 : 0 < w.heap.size := World.block_lt_of_cell? w _ hm
  have HM := Lib.hid hm
  have B0 := Lib.hid (byt_of_row w0)
  have B1 := Lib.hid (byt_of_row w1)
  have hl0 := len_of_row w0
  have hl1 := len_of_row w1
  unfold maxLen at hl0 hl1
  generalize (z0.take len0).map Int.toNat = l0 at *
  generalize (z1.take len1).map Int.toNat = l1 at *
  clear hm w0 w1
  by_cases h30 : 30 < len0
  · go_enter Try.func4, Try.ntmps4
    go_wp2_with fail
    refine (awake_any _ m HM.out).mono ?_
    rintro e w2 ⟨rfl, hb⟩
    have hm2 := Lib.hid ((hb.cell (p := ⟨0, 0, none⟩) h0).trans HM.out)
    go_wp2_with fail
    refine (awake_any _ m hm2.out).mono ?_
    rintro e w3 ⟨rfl, hb3⟩
    go_wp2_with fail
    go_ret
    exact ⟨rfl, hb.trans (hb3.mono hb.size)⟩
  · go_enter Try.func4, Try.ntmps4
    go_wp2_with fail
    refine (awake_any _ m HM.out).mono ?_
    rintro e w2 ⟨rfl, hb⟩
    have hm2 := Lib.hid ((hb.cell (p := ⟨0, 0, none⟩) h0).trans HM.out)
    go_wp2_with fail
    have hblk0 := (heap_alloc_new w2 (.cells #[.string ⟨#[32]⟩, .string ⟨#[9]⟩, .string ⟨#[10]⟩, .string ⟨#[32, 32]⟩, .string ⟨#[32, 45, 45, 32, 97, 32, 114, 101, 109, 97, 114, 107, 10]⟩, .string ⟨#[10, 10, 9]⟩] 9)).trans (show _ = some (Obj.cells blanksV 9 (0, 0)) by kernel_rfl)
    have hB2 : Below w.heap.size w (w2.alloc (.cells #[.string ⟨#[32]⟩, .string ⟨#[9]⟩, .string ⟨#[10]⟩, .string ⟨#[32, 32]⟩, .string ⟨#[32, 45, 45, 32, 97, 32, 114, 101, 109, 97, 114, 107, 10]⟩, .string ⟨#[10, 10, 9]⟩] 9)) := hb.alloc hb.size _
    have hsz : (w2.alloc (.cells #[.string ⟨#[32]⟩, .string ⟨#[9]⟩, .string ⟨#[10]⟩, .string ⟨#[32, 32]⟩, .string ⟨#[32, 45, 45, 32, 97, 32, 114, 101, 109, 97, 114, 107, 10]⟩, .string ⟨#[10, 10, 9]⟩] 9)).heap.size = w2.heap.size + 1 := by simp
    generalize w2.alloc (.cells #[.string ⟨#[32]⟩, .string ⟨#[9]⟩, .string ⟨#[10]⟩, .string ⟨#[32, 32]⟩, .string ⟨#[32, 45, 45, 32, 97, 32, 114, 101, 109, 97, 114, 107, 10]⟩, .string ⟨#[10, 10, 9]⟩] 9) = W2 at *
    have hm3 := Lib.hid ((hB2.cell (p := ⟨0, 0, none⟩) h0).trans HM.out)
    have HBK := Lib.hid hblk0
    have HB2 := Lib.hid hB2
    have hG : w2.heap.size < W2.heap.size := by omega
    have hwG : w.heap.size ≤ w2.heap.size := hb.size
    have HWG : w.heap.size ≤ W2.heap.size := by omega
    have hW2 : 0 < W2.heap.size := by omega
    clear hblk0 hB2 hsz hb hm2
    generalize w2.heap.size = G at *
    go_loopw [6, 7, 8] (fun tv uv iv wr => ∃ (T U : ByteArray) (k : Nat) (ts : List (Int × List UInt8 × Int)), Below W2.heap.size W2 wr ∧ tv = .string T ∧ uv = .string U ∧ iv = .int .i64 k ∧ k ≤ len0 ∧ T.size ≤ 33 * k ∧ U.size ≤ 46 * k ∧
      Hid (Reads T.data.toList ts ∧ Reads U.data.toList ts)) (fun _ _ iv _ => len0 - (intOf iv).toNat)
    case atStart => exact ⟨⟨#[]⟩, ⟨#[]⟩, 0, [], Below.refl _ _, rfl, rfl, rfl, by omega, by decide, by decide, Lib.hid ⟨reads_nil, reads_nil⟩⟩
    case round =>
      obtain ⟨T, U, k, ts, hBr, rfl, rfl, rfl, hk, hT, hU, hR⟩ := hrel
      have HBR := Lib.hid hBr
      have q1 : (0 : Int) ≤ (k : Int) := Int.natCast_nonneg _
      have hm4 := Lib.hid ((hBr.cell (p := ⟨0, 0, none⟩) hW2).trans hm3.out)
      have hszr := hBr.size
      have b0 := (B0.out.below (Nat.le_refl _) HB2.out).below (Nat.le_refl _) hBr
      have b1 := (B1.out.below (Nat.le_refl _) HB2.out).below (Nat.le_refl _) hBr
      have B0r := Lib.hid b0
      have B1r := Lib.hid b1
      have HBKr := Lib.hid ((hBr.block G hG).trans HBK.out)
      clear hBr b0 b1
      by_cases hlt : k < len0
      · have hl0k : k < l0.length := by have := B0r.out.1; omega
        obtain ⟨ad, rfl, hcell, hkd⟩ := B0r.out.2 k hl0k
        obtain ⟨kd, hkde⟩ : ∃ kd, l0[k] = kd := ⟨_, rfl⟩
        rw [hkde] at hcell hkd
        clear hkde
        have q2 : (k : Int) < (len0 : Int) := by omega
        have q3 : (k : Int) % 256 = (k : Int) := by omega
        go_wp2_with fail
        have hby : Byt (wr.alloc (.cells #[.int .u8 k] 5)) (some ⟨wr.heap.size, 0, none⟩) 1 [k] := by
          refine ⟨rfl, fun j hj => ?_⟩
          have hj0 : j = 0 := by simpa using hj
          subst hj0
          exact ⟨_, rfl, World.cell?_alloc_new wr _ _ 0, show k < 256 by omega⟩
        have HBY := Lib.hid hby
        clear hby
        refine (wordf_any kd _ 1 1 [k] _ (by exact HBY.out) hkd (by omega)).mono ?_
        rintro e w3 ⟨S, rfl, hSd, hb3⟩
        have hok := wordS_ok kd [k]
        have hSs : S.size ≤ 32 := by
          have h := hok.2.1
          rw [← hSd, size_len] at h
          exact h
        have hR' := hR
        have HR := hR
        have HB3 := Lib.hid ((HBR.out.alloc hszr (.cells #[.int .u8 k] 5)).trans (hb3.mono (by simp; omega)))
        have b1 := (B1r.out.below (B := wr.heap.size) (Nat.le_refl _) (((Below.refl _ _).alloc (Nat.le_refl _) (.cells #[.int .u8 k] 5)).trans (hb3.mono (by simp))))
        have HB1 := Lib.hid b1
        have hbk3 := Lib.hid (((((Below.refl wr.heap.size wr).alloc (Nat.le_refl _) (.cells #[.int .u8 k] 5)).trans (hb3.mono (by simp))).block G (by omega)).trans HBKr.out)
        clear b1 hb3 hR'
        by_cases hlt1 : k < len1
        · have hl1k : k < l1.length := by have := HB1.out.1; omega
          obtain ⟨ad1, rfl, hcell1, hgd⟩ := HB1.out.2 k hl1k
          obtain ⟨gd, hgde⟩ : ∃ gd, l1[k] = gd := ⟨_, rfl⟩
          rw [hgde] at hcell1 hgd
          clear hgde
          obtain ⟨x, hxm⟩ : ∃ x : Nat, (gd : Int) % 6 = (x : Int) := ⟨gd % 6, by omega⟩
          have hx6 : x < 6 := by omega
          have p1 : (0 : Int) ≤ (x : Int) := Int.natCast_nonneg _
          have p2 : (x : Int) < 6 := by omega
          have p3 : (k : Int) < (len1 : Int) := by omega
          have hcb : w3.cell? ⟨G, x, none⟩ = some (.string (blankS x)) := by
            rw [cell_of_row w3 G x _ _ _ hbk3.out]; exact blanksV_at x hx6
          have hbs := blankS_size x hx6
          obtain ⟨t, hr1, hr2⟩ := reads_more HR.out.1 HR.out.2 hok (blankS_mem x hx6)
          rw [← hSd] at hr1 hr2
          have hdT : (T ++ (S ++ ⟨#[32]⟩)).data.toList = T.data.toList ++ (S.data.toList ++ [32]) := by simp [ByteArray.data_append]
          have hdU : (U ++ ((S ++ ⟨#[32]⟩) ++ blankS x)).data.toList = U.data.toList ++ ((S.data.toList ++ [32]) ++ (blankS x : ByteArray).data.toList) := by simp [ByteArray.data_append]
          have hR2 : Hid (Reads (T ++ (S ++ ⟨#[32]⟩)).data.toList (ts ++ [t]) ∧ Reads (U ++ ((S ++ ⟨#[32]⟩) ++ blankS x)).data.toList (ts ++ [t])) := Lib.hid (by
            rw [hdT, hdU]; exact ⟨hr1, hr2⟩)
          have hs1 : (T ++ (S ++ ⟨#[32]⟩)).size ≤ 33 * (k + 1) := by
            rw [ByteArray.size_append, ByteArray.size_append]
            have : (⟨#[32]⟩ : ByteArray).size = 1 := rfl
            omega
          have hs2 : (U ++ ((S ++ ⟨#[32]⟩) ++ blankS x)).size ≤ 46 * (k + 1) := by
            rw [ByteArray.size_append, ByteArray.size_append, ByteArray.size_append]
            have : (⟨#[32]⟩ : ByteArray).size = 1 := rfl
            have := hbs
            omega
          clear hr1 hr2 hdT hdU hSd
          go_wp2_with fail
          exact ⟨⟨_, _, k + 1, ts ++ [t], HB3.out, rfl, rfl, by go_num, by omega, hs1, hs2, hR2⟩, by simp only [intOf]; omega⟩
        · have p3 : ¬ (k : Int) < (len1 : Int) := by omega
          obtain ⟨t, hr1, hr2⟩ := reads_more HR.out.1 HR.out.2 hok (show [32] ∈ blanksL by decide)
          rw [← hSd] at hr1 hr2
          have hdT : (T ++ (S ++ ⟨#[32]⟩)).data.toList = T.data.toList ++ (S.data.toList ++ [32]) := by simp [ByteArray.data_append]
          have hdU : (U ++ ((S ++ ⟨#[32]⟩) ++ ⟨#[32]⟩)).data.toList = U.data.toList ++ ((S.data.toList ++ [32]) ++ (⟨#[32]⟩ : ByteArray).data.toList) := by simp [ByteArray.data_append]
          have hR2 : Hid (Reads (T ++ (S ++ ⟨#[32]⟩)).data.toList (ts ++ [t]) ∧ Reads (U ++ ((S ++ ⟨#[32]⟩) ++ ⟨#[32]⟩)).data.toList (ts ++ [t])) := Lib.hid (by
            rw [hdT, hdU]; exact ⟨hr1, hr2⟩)
          have hs1 : (T ++ (S ++ ⟨#[32]⟩)).size ≤ 33 * (k + 1) := by
            rw [ByteArray.size_append, ByteArray.size_append]
            have : (⟨#[32]⟩ : ByteArray).size = 1 := rfl
            omega
          have hs2 : (U ++ ((S ++ ⟨#[32]⟩) ++ ⟨#[32]⟩)).size ≤ 46 * (k + 1) := by
            rw [ByteArray.size_append, ByteArray.size_append, ByteArray.size_append]
            have : (⟨#[32]⟩ : ByteArray).size = 1 := rfl
            have := (show (⟨#[32]⟩ : ByteArray).size = 1 from rfl)
            omega
          clear hr1 hr2 hdT hdU hSd
          go_wp2_with fail
          exact ⟨⟨_, _, k + 1, ts ++ [t], HB3.out, rfl, rfl, by go_num, by omega, hs1, hs2, hR2⟩, by simp only [intOf]; omega⟩
      · obtain rfl : k = len0 := by omega
        go_wp2_with fail
        obtain ⟨hokT, htT⟩ := (lexAll_strip T (by omega)).2 ts (reads_whole hR.out.1)
        obtain ⟨hokU, htU⟩ := (lexAll_strip U (by omega)).2 ts (reads_whole hR.out.2)
        refine (words_any T wr m hm4.out (by omega)).mono ?_
        rintro e w4 ⟨hb4, hok4, _⟩
        obtain ⟨o1, rfl, own1⟩ := hok4 hokT
        have hm5 := Lib.hid ((hb4.cell (p := ⟨0, 0, none⟩) (Nat.lt_of_lt_of_le hW2 hszr)).trans hm4.out)
        have hs4 := hb4.size
        have HB4 := Lib.hid hb4
        clear hok4 hb4
        go_wp2_with fail
        refine (words_any U w4 m hm5.out (by omega)).mono ?_
        rintro e w5 ⟨hb5, hok5, _⟩
        obtain ⟨o2, rfl, own2⟩ := hok5 hokU
        have own1' := own_below own1 hb5
        have HB5 := Lib.hid hb5
        have hs5 := hb5.size
        clear hok5 own1 hb5 hokT hokU
        generalize (lexAll T).toks = l1t at *
        generalize (lexAll U).toks = l2t at *
        have hst : l1t.map Tok.strip = l2t.map Tok.strip := htT.trans htU.symm
        have hlen : l2t.length = l1t.length := by have := congrArg List.length hst; simpa using this.symm
        have hpos : 0 < l1t.length := by have := congrArg List.length htT; simp at this; omega
        obtain ⟨g1, c1, hv1, _, hg1⟩ := own1'.form hpos
        obtain ⟨g2, c2, hv2, _, hg2⟩ := own2.form (by omega)
        subst hv1 hv2
        have hcap1 : l1t.length ≤ maxLen := own_len own1'
        unfold maxLen at hcap1
        have O1 := Lib.hid own1'
        have O2 := Lib.hid own2
        have HST := Lib.hid hst
        have HLEN := Lib.hid hlen
        have hlenle : l2t.length ≤ l1t.length := by omega
        have hlenge : l1t.length ≤ l2t.length := by omega
        have tn : ((l1t.length : Int) != (l2t.length : Int)) = false := by rw [hlen]; simp
        clear own1' own2 hst hlen htT htU
        go_wp2_with fail
        go_loopw [15] (fun kv wr => ∃ j : Nat, kv = .int .i64 j ∧ j ≤ l1t.length ∧ Below w5.heap.size w5 wr) (fun kv _ => l1t.length - (intOf kv).toNat)
        case atStart => exact ⟨0, rfl, by omega, Below.refl _ _⟩
        case round =>
          obtain ⟨j, rfl, hj, hbx⟩ := hrel
          have r1 : (0 : Int) ≤ (j : Int) := Int.natCast_nonneg _
          have HBX := Lib.hid hbx
          have hsx := hbx.size
          by_cases hltj : j < l1t.length
          · have o1 := own_below O1.out hbx
            have o2 := own_below O2.out hbx
            have hj2 : j < l2t.length := by omega
            have r2 : (j : Int) < (l1t.length : Int) := by omega
            have r3 : (j : Int) < (l2t.length : Int) := by omega
            have hse : (l1t[j]).strip = (l2t[j]).strip := by
              have h1 : (l1t.map Tok.strip)[j]? = (l2t.map Tok.strip)[j]? := by rw [HST.out]
              simpa [hltj, hj2] using h1
            have ca := fun i u h => row_cell o1 j hltj i u h
            have cb := fun i u h => row_cell o2 j hj2 i u h
            generalize l1t[j] = a at *
            generalize l2t[j] = b at *
            have x0 := ca 0 _ rfl
            have x1 := ca 1 _ rfl
            have x2 := ca 2 _ rfl
            have x3 := ca 3 _ rfl
            have x4 := ca 4 _ rfl
            have y0 := cb 0 _ rfl
            have y1 := cb 1 _ rfl
            have y2 := cb 2 _ rfl
            have y3 := cb 3 _ rfl
            have y4 := cb 4 _ rfl
            simp only [Nat.add_zero] at x0 y0
            have HSE := Lib.hid hse
            clear hbx o1 o2 hse ca cb
            go_wp2_with fail
            refine wp_region_D (fun w' => w'.cell? ⟨g1, j * 5, none⟩ = some (.int .u8 a.kind) ∧ w'.cell? ⟨g1, j * 5 + 1, none⟩ = some (.string a.text) ∧ w'.cell? ⟨g1, j * 5 + 2, none⟩ = some (.int .i32 a.n) ∧ w'.cell? ⟨g1, j * 5 + 3, none⟩ = some (.int .i64 a.line) ∧ w'.cell? ⟨g1, j * 5 + 4, none⟩ = some (.int .i64 a.col) ∧ w'.cell? ⟨g2, j * 5, none⟩ = some (.int .u8 b.kind) ∧ w'.cell? ⟨g2, j * 5 + 1, none⟩ = some (.string b.text) ∧ w'.cell? ⟨g2, j * 5 + 2, none⟩ = some (.int .i32 b.n) ∧ w'.cell? ⟨g2, j * 5 + 3, none⟩ = some (.int .i64 b.line) ∧ w'.cell? ⟨g2, j * 5 + 4, none⟩ = some (.int .i64 b.col)) (fun _ => false) (by kernel_rfl) ?_ (fun hHeld => ?_)
            · exact ⟨x0, x1, x2, x3, x4, y0, y1, y2, y3, y4⟩
            refine wpAnyD_take (i := 0) (v := ?v0) rfl (by kernel_rfl) (by kernel_rfl) (by kernel_rfl) (by kernel_rfl) (fun _ _ _ h => h) (Or.inl ⟨by rfl, ?h0⟩) hHeld ?_
            case h0 => (intro w hSw; (try dsimp only at hSw); go_simp; try with_reducible rfl)
            try simp only [Act.put, List.setIfInBounds_toArray, List.set_cons_zero, List.set_cons_succ, List.getElem_toArray, List.getElem_cons_zero, List.getElem_cons_succ]
            refine wpAnyD_take (i := 1) (v := ?v1) rfl (by kernel_rfl) (by kernel_rfl) (by kernel_rfl) (by kernel_rfl) (fun _ _ _ h => h) (Or.inl ⟨by rfl, ?h1⟩) hHeld ?_
            case h1 => (intro w hSw; (try dsimp only at hSw); go_simp; try with_reducible rfl)
            try simp only [Act.put, List.setIfInBounds_toArray, List.set_cons_zero, List.set_cons_succ, List.getElem_toArray, List.getElem_cons_zero, List.getElem_cons_succ]
            refine wpAnyD_take (i := 2) (v := ?v2) rfl (by kernel_rfl) (by kernel_rfl) (by kernel_rfl) (by kernel_rfl) (fun _ _ _ h => h) (Or.inl ⟨by rfl, ?h2⟩) hHeld ?_
            case h2 => (intro w hSw; (try dsimp only at hSw); go_simp; try with_reducible rfl)
            try simp only [Act.put, List.setIfInBounds_toArray, List.set_cons_zero, List.set_cons_succ, List.getElem_toArray, List.getElem_cons_zero, List.getElem_cons_succ]
            refine wpAnyD_take (i := 3) (v := ?v3) rfl (by kernel_rfl) (by kernel_rfl) (by kernel_rfl) (by kernel_rfl) (fun _ _ _ h => h) (Or.inl ⟨by rfl, ?h3⟩) hHeld ?_
            case h3 => (intro w hSw; (try dsimp only at hSw); go_simp; try with_reducible rfl)
            try simp only [Act.put, List.setIfInBounds_toArray, List.set_cons_zero, List.set_cons_succ, List.getElem_toArray, List.getElem_cons_zero, List.getElem_cons_succ]
            refine wpAnyD_take (i := 4) (v := ?v4) rfl (by kernel_rfl) (by kernel_rfl) (by kernel_rfl) (by kernel_rfl) (fun _ _ _ h => h) (Or.inl ⟨by rfl, ?h4⟩) hHeld ?_
            case h4 => (intro w hSw; (try dsimp only at hSw); go_simp; try with_reducible rfl)
            try simp only [Act.put, List.setIfInBounds_toArray, List.set_cons_zero, List.set_cons_succ, List.getElem_toArray, List.getElem_cons_zero, List.getElem_cons_succ]
            refine wpAnyD_take (i := 5) (v := ?v5) rfl (by kernel_rfl) (by kernel_rfl) (by kernel_rfl) (by kernel_rfl) (fun _ _ _ h => h) (Or.inl ⟨by rfl, ?h5⟩) hHeld ?_
            case h5 => (intro w hSw; (try dsimp only at hSw); go_simp; try with_reducible rfl)
            try simp only [Act.put, List.setIfInBounds_toArray, List.set_cons_zero, List.set_cons_succ, List.getElem_toArray, List.getElem_cons_zero, List.getElem_cons_succ]
            refine wpAnyD_take (i := 6) (v := ?v6) rfl (by kernel_rfl) (by kernel_rfl) (by kernel_rfl) (by kernel_rfl) (fun _ _ _ h => h) (Or.inl ⟨by rfl, ?h6⟩) hHeld ?_
            case h6 => (intro w hSw; (try dsimp only at hSw); go_simp; try with_reducible rfl)
            try simp only [Act.put, List.setIfInBounds_toArray, List.set_cons_zero, List.set_cons_succ, List.getElem_toArray, List.getElem_cons_zero, List.getElem_cons_succ]
            refine wpAnyD_take (i := 7) (v := ?v7) rfl (by kernel_rfl) (by kernel_rfl) (by kernel_rfl) (by kernel_rfl) (fun _ _ _ h => h) (Or.inl ⟨by rfl, ?h7⟩) hHeld ?_
            case h7 => (intro w hSw; (try dsimp only at hSw); go_simp; try with_reducible rfl)
            try simp only [Act.put, List.setIfInBounds_toArray, List.set_cons_zero, List.set_cons_succ, List.getElem_toArray, List.getElem_cons_zero, List.getElem_cons_succ]
            refine wpAnyD_one (i := 8) (by kernel_rfl) rfl (fun K hK => ?_)
            go_simp
            refine (same_any a b HSE.out _).mono ?_
            rintro e w6 ⟨rfl, hb6⟩
            have hb7 : Below wr.heap.size wr w6 := ⟨hb6.os, hb6.tape, hb6.output, hb6.size, hb6.block⟩
            go_simp
            refine hK.out _ _ (fun _ => ?_) (fun hHeld1 => ?_)
            · exact ⟨(hb7.cell (World.block_lt_of_cell? wr _ x0)).trans x0, (hb7.cell (World.block_lt_of_cell? wr _ x1)).trans x1, (hb7.cell (World.block_lt_of_cell? wr _ x2)).trans x2, (hb7.cell (World.block_lt_of_cell? wr _ x3)).trans x3, (hb7.cell (World.block_lt_of_cell? wr _ x4)).trans x4, (hb7.cell (World.block_lt_of_cell? wr _ y0)).trans y0, (hb7.cell (World.block_lt_of_cell? wr _ y1)).trans y1, (hb7.cell (World.block_lt_of_cell? wr _ y2)).trans y2, (hb7.cell (World.block_lt_of_cell? wr _ y3)).trans y3, (hb7.cell (World.block_lt_of_cell? wr _ y4)).trans y4⟩
            replace hHeld := hHeld1 rfl
            clear hHeld1
            clear hK K
            try simp only [Act.put, List.setIfInBounds_toArray, List.set_cons_zero, List.set_cons_succ, List.getElem_toArray, List.getElem_cons_zero, List.getElem_cons_succ]
            refine wpAnyD_take (i := 9) (v := ?v9) rfl (by kernel_rfl) (by kernel_rfl) (by kernel_rfl) (by kernel_rfl) (fun _ _ _ h => h) (Or.inl ⟨by rfl, ?h9⟩) hHeld ?_
            case h9 => (intro w hSw; (try dsimp only at hSw); go_simp; try with_reducible rfl)
            try simp only [Act.put, List.setIfInBounds_toArray, List.set_cons_zero, List.set_cons_succ, List.getElem_toArray, List.getElem_cons_zero, List.getElem_cons_succ]
            refine wpAnyD_done (by kernel_rfl) ?_ _
            have HB7 := Lib.hid (HBX.out.trans (hb7.mono hsx))
            clear hHeld hb6 hb7 x0 x1 x2 x3 x4 y0 y1 y2 y3 y4
            go_wp2_with fail
            exact ⟨⟨j + 1, by go_num, by omega, HB7.out⟩, by simp only [intOf]; omega⟩
          · have r2 : ¬ (j : Int) < (l1t.length : Int) := by omega
            go_wp2_with fail
            go_ret
            refine ⟨rfl, ?_⟩
            have t1 := HB2.out.trans (HBR.out.mono HWG)
            have t2 := t1.trans (HB4.out.mono (Nat.le_trans HWG hszr))
            have t3 := t2.trans (HB5.out.mono (Nat.le_trans (Nat.le_trans HWG hszr) hs4))
            exact t3.trans (HBX.out.mono (Nat.le_trans (Nat.le_trans (Nat.le_trans HWG hszr) hs4) hs5))

set_option maxRecDepth 100000 in
theorem lifted (os : Os) (started : os.Started) (H : Type) (enc : TypeId × Value → H) :
    ReturnsInHanded {} Try.checked os 4 .any (Rows.lexBlanksSpec.pre6 enc Try.prog Try.f4 Rows.lexBlanksRow.domain false) (Rows.lexBlanksSpec.post enc Try.prog Try.f4 false true false false) := by
  refine returnsInHanded_of_change_shaped (C := Try.checked) own started (by kernel_rfl) Try.func4
    (ChangeSpec.witness6 (enc := enc) (C := Try.checked) false ⟨#[], #[.slice none 0 0, .slice none 0 0], []⟩ 8 (by kernel_rfl) (by kernel_rfl) (by kernel_rfl) (by kernel_rfl)) ?_
  intro W base args ds gs before hval0 hW hcnd hreach hsh _
  obtain ⟨m, hm⟩ := cell_of_shapedOpen_int (P := Try.prog) (g := 0) (t := 3) (zero := #[.int .i64 0]) hsh (of_decide_eq_true (by kernel_rfl)) (by kernel_rfl) rfl (by kernel_rfl) (by kernel_rfl) Try.underlying3
  have hval : ∀ (j : Nat) t v, Try.f4.params[j]? = some t → args[j]? = some v → Value.okWide Try.prog W .any base t v := hval0
  have hW' := hW
  obtain ⟨p, q, hA0, hV, rfl, hfz, hnd⟩ := hW
  have hA : DataW.TrodAll enc Try.prog W 0 (fun _ => true) true Try.f4.params.toList args.toList ds p := hA0
  rw [Try.params4] at hA hval
  obtain ⟨v0, vs0, d0, ds0, p0, q0, hargs, rfl, rfl, h0, r0⟩ := trodAll_cons hA
  obtain ⟨v1, vs1, d1, ds1, p1, q1, rfl, rfl, rfl, h1, r1⟩ := trodAll_cons r0
  obtain ⟨rfl, rfl, rfl⟩ := trodAll_nil r1
  obtain rfl : args = #[v0, v1] := by cases args; simp_all
  obtain ⟨rfl, rfl⟩ := trodVars_none hV
  obtain ⟨a0, len0, cap0, rfl⟩ := okWide_slice Try.underlying27 (hval 0 27 v0 rfl rfl)
  have k0 := h0
  have lt0 : ∀ x ∈ p0, x.block < W.heap.size := by obtain ⟨m, hm⟩ := k0; exact DataW.trod_lt m _ _ _ hm
  obtain ⟨z0, w0⟩ : ∃ zs, IsRow .u8 W a0 len0 cap0 zs := by
    obtain ⟨fuel, hf⟩ := h0
    rcases open_ints Try.underlying27 Try.underlying5 (by kernel_rfl) hf with ⟨hcs, _⟩ | ⟨x, l, c, zs, hcs, _, hl, hm, hz, _, hcell, hwz⟩
    · simp [Value.cells] at hcs
      obtain ⟨rfl, rfl, rfl⟩ := hcs
      exact ⟨[], .inl ⟨rfl, rfl, rfl, rfl⟩⟩
    · simp [Value.cells] at hcs
      obtain ⟨rfl, rfl, rfl⟩ := hcs
      exact ⟨zs, .inr ⟨_, rfl, hl, hm, by simpa using hz, hcell, hwz⟩⟩
  obtain ⟨a1, len1, cap1, rfl⟩ := okWide_slice Try.underlying27 (hval 1 27 v1 rfl rfl)
  have k1 := h1
  have lt1 : ∀ x ∈ p1, x.block < W.heap.size := by obtain ⟨m, hm⟩ := k1; exact DataW.trod_lt m _ _ _ hm
  obtain ⟨z1, w1⟩ : ∃ zs, IsRow .u8 W a1 len1 cap1 zs := by
    obtain ⟨fuel, hf⟩ := h1
    rcases open_ints Try.underlying27 Try.underlying5 (by kernel_rfl) hf with ⟨hcs, _⟩ | ⟨x, l, c, zs, hcs, _, hl, hm, hz, _, hcell, hwz⟩
    · simp [Value.cells] at hcs
      obtain ⟨rfl, rfl, rfl⟩ := hcs
      exact ⟨[], .inl ⟨rfl, rfl, rfl, rfl⟩⟩
    · simp [Value.cells] at hcs
      obtain ⟨rfl, rfl, rfl⟩ := hcs
      exact ⟨zs, .inr ⟨_, rfl, hl, hm, by simpa using hz, hcell, hwz⟩⟩
  clear hA0 hval0
  refine (walk a0 len0 cap0 z0 a1 len1 cap1 z1 W w0 w1 m hm).mono fun e W' ⟨he, bel⟩ => ?_
  subst he
  exact ⟨_, rfl, _, _, _, [], _, [], hW', trodAll_mk1 (shut_bool Try.underlying4 _), (trodAll_cons_mk (Below.trod laidOut (by kernel_rfl) (of_decide_eq_true (by kernel_rfl)) k0 bel lt0) (trodAll_cons_mk (Below.trod laidOut (by kernel_rfl) (of_decide_eq_true (by kernel_rfl)) k1 bel lt1) trodAll_mk0)), rfl, bel.frame _, fun h => by cases h⟩

theorem over : Rows.lexBlanksRow.holds Try.pinned (OpenSpec.ofChange Rows.lexBlanksSpec) :=
  OpenClaim.holds_of_wide 4 Try.f4 rfl rfl rfl rfl rfl rfl rfl ⟨rfl, rfl, rfl, rfl, rfl⟩ rfl rfl rfl rfl rfl (by kernel_rfl) Try.func4 (by kernel_rfl)
    (of_decide_eq_true (by kernel_rfl)) (by unfold Func.isWrapper; first | (rw [if_pos (by decide +kernel)]; kernel_rfl) | (rw [if_neg (by decide +kernel)]; exact ⟨rfl, rfl⟩))
    (fun os started H enc _ => lifted os started H enc)

theorem proved : Rows.LexBlanksSaid := over
#print axioms proved
end Go.Proofs.Ytijdhfjdnndkmaa.lexBlanks
