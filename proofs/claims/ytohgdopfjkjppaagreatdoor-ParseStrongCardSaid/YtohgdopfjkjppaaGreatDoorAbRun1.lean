/-
 One operation, with what it asks for decided: for runs on values that are known.
-/
-- halved
import Derived.Test.YtohgdopfjkjppaaGreatDoorAbStep
set_option linter.unusedVariables false
set_option linter.unusedSimpArgs false
namespace Go.Proofs.YtohgdopfjkjppaaGreatDoor
open Go Go.RowKit

def fillOkB (fl : List (Nat × Nat × Bool)) (n : Nat) : List (Nat × PV) → Bool
 | [] => true
 | (i, x) :: r => (decide (i < fl.length) && decide (x.cells.length = (fl.getD i (0, 0, false)).2.1) && decide ((fl.getD i (0, 0, false)).1 + x.cells.length ≤ n) && x.cells.all PV.one) && fillOkB fl n r
theorem fillOkB_iff {fl : List (Nat × Nat × Bool)} {n : Nat} : ∀ {l : List (Nat × PV)}, fillOkB fl n l = true → fillOk fl n l
 | [], _ => trivial
 | (i, x) :: r, h => by
  simp only [fillOkB, Bool.and_eq_true, decide_eq_true_eq] at h
  exact ⟨⟨h.1.1.1.1, h.1.1.1.2, h.1.1.2, h.1.2⟩, fillOkB_iff h.2⟩
def aBinB (op : BinOp) (x y : PV) : Bool := match x, y with
 | .v (.int _ _), .v (.int _ b) => (match op with
  | .shl | .shr => decide (0 ≤ b)
  | .quo | .rem => decide (b ≠ 0)
  | _ => true)
 | .v (.string a), .v (.string b) => decide (((a.size + b.size : Nat) : Int) ≤ 9223372036854775807)
 | _, _ => true
theorem aBinB_iff {op : BinOp} {x y : PV} {p : Prop} {r : PV} (h : aBin op x y = some (p, r)) (hb : aBinB op x y = true) : p := by
 unfold aBin at h
 split at h
 ·rename_i k a k' b
  simp only [aBinB] at hb
  split at h
  ·cases h; simpa using hb
  ·cases h; simpa using hb
  ·rename_i n1 n2
   split at h
   ·split at h
    ·rename_i p' n' he
     cases h
     unfold intAr at he
     split at he <;> cases he <;> first | trivial | simpa using hb
    ·cases hc : intCmp op a b with
     | none => simp [hc] at h
     | some c => simp [hc] at h; exact h.1
   ·cases h
 ·simp only [aBinB] at hb
  split at h
  ·cases h; simpa using hb
  ·cases h; trivial
  ·cases h; trivial
  ·cases h; trivial
  ·cases h
 ·split at h
  ·cases h; trivial
  ·cases h; trivial
  ·cases h
 ·cases h
def isBoolT (P : Program) (t : TypeId) : Bool := match P.underlying t with | some .bool => true | _ => false
def isU8T (o : Option TypeDesc) : Bool := match o with | some (.int .u8) => true | _ => false
def isStrT (P : Program) (ts : List TypeId) : Bool := match ts with
 | [t] => (match P.underlying t with | some .string => true | _ => false)
 | _ => false
def needBB (P : Program) (op : BinOp) (x : PV) (t : TypeId) : Bool := match op, x with
 | .eql, .v (.bool _) | .neq, .v (.bool _) => isBoolT P t
 | _, _ => true
theorem needBB_iff {P : Program} {op : BinOp} {x : PV} {t : TypeId} (h : needBB P op x t = true) : needB P op x t := by
 unfold needBB at h
 unfold needB
 split at h
 ·unfold isBoolT at h; split at h <;> first | assumption | cases h
 ·unfold isBoolT at h; split at h <;> first | assumption | cases h
 ·split <;> first | trivial | (exfalso; simp_all)
def Own.freeB (o : Own) (m : M) (s : Nat) : Bool := match o with | .no => false | .full => true | .tok t => m.toks[t]? == some (some s)
theorem freeB_iff {o : Own} {m : M} {s : Nat} (h : o.freeB m s = true) : o.free m s := by
 cases o with
 | no => cases h
 | full => trivial
 | tok t => simpa [Own.freeB, Own.free, M.alive] using h

/-- What an operation asks for. -/
def ePre (P : Program) (mu : Bool) (op : Op) (f : F) (m : M) : Bool :=
 match op with
 | .move _ | .assign _ | .pick .. | .nilCheck _ | .unOp .. | .makeFunc .. | .makeInterface .. | .typeAssert .. | .makeMap .. | .lookup .. | .mapUpdate .. | .range .. | .next .. => true
 | .box _ x => if mu then (ev f x).cells.all PV.one else (ev f x).settle.ok
 | .alloc e => (match tdat P e with | some d => if mu then (ofV d.zero).cells.all PV.one else (ofV d.zero).settle.ok | none => false)
 | .build t parts => (match tflds P t, tdat P t with
  | some fl, some d => (ofV d.zero).cells.all PV.one && fillOkB fl (ofV d.zero).cells.length (parts.toList.map fun p => (p.1, ev f p.2))
  | none, some d => (match tarr P t with
   | some (n, e) => (match tdat P e with
    | some de => (ofV d.zero).cells.all PV.one && fillOkB (aflds n 0 de) (ofV d.zero).cells.length (parts.toList.map fun p => (p.1, ev f p.2))
    | none => false)
   | none => false)
  | _, _ => false)
 | .buildSlice t n parts => (match tel P t with
  | some e => (match tdat P e with
   | some d => decide (parts.toList.map (·.1) = List.range n) && decide (n ≤ 16777216) && decide (n * d.sz ≤ 16777216) &&
       (if mu then (parts.toList.map fun p => (ev f p.2)).all fun y => decide (y.cells.length = d.sz) && y.cells.all PV.one
       else (parts.toList.map fun p => (ev f p.2)).all fun y => decide (y.cells.length = d.sz) && y.settle.ok)
   | none => false)
  | none => false)
 | .load t a => (match tdat P t, ev f a with
  | some d, .ep xs => if d.agg then decide (d.sz ≤ xs.length) else decide (0 < xs.length)
  | some d, .bp id o => (match m.get id with | some c => if d.agg then decide (o + d.sz ≤ c.length) else decide (o < c.length) | none => false)
  | _, _ => false)
 | .store t a x => (match tdat P t, ev f a with
  | some d, .bp id o => (match m.get id with | some c => decide ((ev f x).cells.length = d.sz) && decide (o + d.sz ≤ c.length) && (ev f x).cells.all PV.one | none => false)
  | _, _ => false)
 | .binOp op t x y _ => (match aBin op (ev f x) (ev f y) with
  | some _ => aBinB op (ev f x) (ev f y) && needBB P op (ev f x) t
  | none => (match op, ev f x, ev f y with
   | .eql, .ag a, .ag _ => decide ((flat1 P t).map (·.map some) = some (a.map skP))
   | .neq, .ag a, .ag _ => decide ((flat1 P t).map (·.map some) = some (a.map skP))
   | .eql, .bs _ _ _, _ => sliceT P t
   | _, a, b => (match eqNil a b with
    | some (k, c) => decide (nkT P t = some k) && (!c || (cstO x || cstO y))
    | none => false)))
 | .convert s d x => (match P.underlying d, ev f x with
  | some (.int _), _ => (P.underlying s).isSome
  | some .string, _ => isU8T (eltB P s)
  | _, _ => false)
 | .fieldAddr t x i => (match tflds P t, ev f x with
  | some fl, .ep xs => (match fl[i]? with | some (o, n, _) => decide (n ≠ 0) && decide (o ≤ xs.length) | none => false)
  | some fl, .bp _ _ => (match fl[i]? with | some (_, n, _) => decide (n ≠ 0) | none => false)
  | _, _ => false)
 | .field t x i => (match tflds P t, ev f x with
  | some fl, .ag xs => (match fl[i]? with | some (o, n, a) => if a then decide (o + n ≤ xs.length) else decide (o < xs.length) | none => false)
  | _, _ => false)
 | .indexAddr t x i => (match tel P t, ev f x, ev f i with
  | some e, .sl _ xs, .v (.int _ n) => decide (0 ≤ n) && decide (n.toNat < xs.length) && decide ((tdat P e).map (·.sz) = some (xs.getD n.toNat .junk).cells.length)
  | some _, .bs _ _ l, .v (.int _ n) => decide (0 ≤ n) && decide (n.toNat < l)
  | none, .ep xs, .v (.int _ n) => (match tarr P t with
   | some (l, e) => (match tdat P e with | some d => decide (0 ≤ n) && decide (n.toNat < l) && decide (n.toNat * d.sz ≤ xs.length) | none => false)
   | none => false)
  | none, .bp _ _, .v (.int _ n) => (match tarr P t with
   | some (l, e) => decide (0 ≤ n) && decide (n.toNat < l)
   | none => false)
  | _, _, _ => false)
 | .index t x i => (match ev f x, ev f i with
  | .v (.string s), .v (.int _ n) => decide (0 ≤ n) && decide (n.toNat < s.size)
  | .ag xs, .v (.int _ n) => (match tarr P t with
   | some (l, e) => (match tdat P e with | some d => decide (0 ≤ n) && decide (n.toNat < l) && (if d.agg then decide (n.toNat * d.sz + d.sz ≤ xs.length) else decide (n.toNat * d.sz < xs.length)) | none => false)
   | none => false)
  | _, _ => false)
 | .slice t x lo hi mx => (match P.underlying t, ev f x with
  | some .string, .v (.string s) => (match loOf f lo, hiOf f s.size hi with
   | some l, some h => decide (0 ≤ l) && decide (l ≤ h) && decide (h ≤ s.size)
   | _, _ => false)
  | some (.slice e), .sl _ xs => (match loOf f lo, hiOf f xs.length hi with
   | some l, some h => decide (0 ≤ l) && decide (l ≤ h) && decide (h ≤ xs.length) && (match tdat P e with | some d => xs.all fun x => decide (x.cells.length = d.sz) | none => false)
   | _, _ => false)
  | _, _ => false)
 | .extract x i => (match ev f x with | .tp xs => decide (i < xs.length) | _ => false)
 | .call c => (match c.callee with
  | .builtin b => (match b, c.args.toList.map (ev f) with
   | .len, [.v (.string _)] => isStrT P c.argTypes.toList
   | .len, [.gs _ _ _] => false
   | .len, _ => true
   | .max, _ => true
   | .min, _ => true
   | .clear, _ => true
   | .append, [.gs _ _ _, _] => false
   | .append, [.sl o xs, y] => (match c.argTypes.toList, elems m y with
    | [t, _], some ys => (match tel P t with
     | some e => (match tdat P e with
      | some d => o.freeB m d.sz && (xs.all fun x => decide (x.cells.length = d.sz)) && (ys.all fun x => decide (x.cells.length = d.sz)) && decide (xs.length + ys.length ≤ maxLen) && decide ((xs.length + ys.length) * d.by_ ≤ 140737488355328)
      | none => false)
     | none => false)
    | _, _ => false)
   | _, _ => false)
  | _ => true)
 | _ => false
set_option maxHeartbeats 4000000 in
theorem ePre_sound0 {P : Program} {mu : Bool} {op : Op} {f : F} {m m' : M} {p : Prop} {v : PV} (h : aStep0 P mu op f m = .ok p v m') (hb : ePre P mu op f m = true) : p := by
 cases op <;> simp only [aStep0, reduceCtorEq] at h <;> simp only [ePre, Bool.false_eq_true] at hb
 case move x => cases h; trivial
 case assign x => cases h; trivial
 case pick c a b => split at h <;> cases h; trivial
 case box e x => split at h <;> cases h <;> simp_all
 case alloc e =>
  cases hd : tdat P e with
  | none => simp [hd] at h
  | some d =>
   simp only [hd] at h hb
   split at h <;> cases h <;> simp_all
 case build t ps =>
  cases hf : tflds P t with
  | none =>
   cases hd : tdat P t with
   | none => simp [hf, hd] at h
   | some d =>
    cases hta : tarr P t with
    | none => simp [hf, hd, hta] at h
    | some q =>
     obtain ⟨n, e⟩ := q
     cases hde : tdat P e with
     | none => simp [hf, hd, hta, hde] at h
     | some de =>
      simp only [hf, hd, hta, hde] at h hb
      cases h
      simp only [Bool.and_eq_true] at hb
      exact ⟨hb.1, fillOkB_iff hb.2⟩
  | some fl =>
   cases hd : tdat P t with
   | none => simp [hf, hd] at h
   | some d =>
    simp only [hf, hd] at h hb
    cases h
    simp only [Bool.and_eq_true] at hb
    exact ⟨hb.1, fillOkB_iff hb.2⟩
 case buildSlice t n ps =>
  cases hf : tel P t with
  | none => simp [hf] at h
  | some e =>
   cases hd : tdat P e with
   | none => simp [hf, hd] at h
   | some d =>
    simp only [hf, hd, Bool.and_eq_true, decide_eq_true_eq] at h hb
    obtain ⟨⟨⟨h1, h2⟩, h3⟩, h4⟩ := hb
    cases mu
    ·simp only [Bool.false_eq_true, if_false, AR.ok.injEq] at h h4
     obtain ⟨rfl, _, _⟩ := h
     refine ⟨h1, ⟨h2, h3⟩, fun y hy => ?_⟩
     have := List.all_eq_true.1 h4 y hy
     simpa using this
    ·simp only [if_true, AR.ok.injEq] at h h4
     obtain ⟨rfl, _, _⟩ := h
     refine ⟨h1, ⟨h2, h3⟩, fun y hy => ?_⟩
     have := List.all_eq_true.1 h4 y hy
     simp only [Bool.and_eq_true, decide_eq_true_eq] at this
     exact this
 case load t a =>
  split at h
  ·rename_i d xs hd he
   simp only [hd, he] at hb
   cases h
   split at hb <;> simp_all
  ·rename_i d id o hd he
   simp only [hd, he] at hb
   split at h
   ·rename_i c hc
    simp only [hc] at hb
    cases h
    split at hb <;> simp_all
   ·cases h
  ·cases h
 case store t a x =>
  split at h
  ·rename_i d id o hd he
   simp only [hd, he] at hb
   split at h
   ·rename_i c hc
    simp only [hc, Bool.and_eq_true, decide_eq_true_eq] at hb
    cases h
    exact ⟨hb.1.1, hb.1.2, hb.2⟩
   ·cases h
  ·cases h
 case nilCheck x => split at h <;> cases h <;> trivial
 case binOp op t x y yt =>
  cases hab : aBin op (ev f x) (ev f y) with
  | some pr =>
   obtain ⟨p', r⟩ := pr
   simp only [hab, Bool.and_eq_true] at h hb
   cases h
   exact ⟨aBinB_iff hab hb.1, needBB_iff hb.2⟩
  | none =>
   simp only [hab] at h hb
   split at h
   ·rename_i a b hx hy
    simp only [hx, hy, decide_eq_true_eq] at hb
    split at h <;> cases h
    exact hb
   ·rename_i a b hx hy
    simp only [hx, hy, decide_eq_true_eq] at hb
    split at h <;> cases h
    exact hb
   ·rename_i hx
    simp only [hx] at hb
    split at h <;> cases h
    exact hb
   ·rename_i h1 h2 h3
    unfold aNil at h
    split at h
    ·rename_i k c he
     cases h
     split at hb <;> simp_all
     intro hc
     rcases hb.2 with h | h
     ·simp [hc] at h
     ·exact h
    ·rename_i k c he
     cases h
     split at hb <;> simp_all
     intro hc
     rcases hb.2 with h | h
     ·simp [hc] at h
     ·exact h
    ·cases h
 case unOp op t x => split at h <;> cases h <;> trivial
 case convert s d x =>
  split at h
  ·cases h; simp_all
  ·split at h
   ·cases h
    rename_i hu he _ _ _
    simp only [hu] at hb
    unfold isU8T at hb
    split at hb <;> first | assumption | cases hb
   ·cases h
  ·cases h
 case fieldAddr t x i =>
  split at h
  ·split at h <;> cases h <;> simp_all
  ·split at h <;> cases h <;> simp_all
  ·cases h
 case field t x i =>
  split at h
  ·split at h
   ·cases h
    simp_all
   ·cases h
  ·cases h
 case indexAddr t x i =>
  split at h
  ·rename_i h1 h2 h3
   cases h
   simp only [h1, h2, h3, Bool.and_eq_true, decide_eq_true_eq] at hb
   exact ⟨hb.1.1, hb.1.2, hb.2⟩
  ·split at h <;> cases h <;> simp_all
  ·rename_i h1 h2 h3
   split at h
   ·rename_i l e hta
    split at h
    ·rename_i d hd
     cases h
     simp only [h1, h2, h3, hta, hd, Bool.and_eq_true, decide_eq_true_eq] at hb
     exact ⟨hb.1.1, hb.1.2, hb.2⟩
    ·cases h
   ·cases h
  ·rename_i h1 h2 h3
   split at h
   ·rename_i l e hta
    split at h
    ·rename_i d hd
     cases h
     simp only [h1, h2, h3, hta, Bool.and_eq_true, decide_eq_true_eq] at hb
     exact hb
    ·cases h
   ·cases h
  ·cases h
 case index t x i =>
  split at h
  ·cases h; simp_all
  ·rename_i l e xs k n hu hx hi
   have hta : tarr P t = some (l, e) := by simp only [tarr, hu]
   split at h
   ·rename_i d hd
    cases h
    simp only [hx, hi, hta, hd, Bool.and_eq_true, decide_eq_true_eq] at hb
    refine ⟨hb.1.1, hb.1.2, ?_⟩
    have h2 := hb.2
    split at h2 <;> simp_all
   ·cases h
  ·cases h
 case slice t x lo hi mx =>
  split at h
  ·rename_i s hu he
   simp only [hu, he] at hb
   split at h
   ·rename_i l hh hl hhi
    simp only [hl, hhi, Bool.and_eq_true, decide_eq_true_eq] at hb
    cases h
    exact ⟨hb.1.1, hb.1.2, hb.2⟩
   ·cases h
  ·rename_i e o xs hu he
   simp only [hu, he] at hb
   split at h
   ·rename_i l hh hl hhi
    simp only [hl, hhi, Bool.and_eq_true, decide_eq_true_eq] at hb
    cases h
    refine ⟨hb.1.1.1, hb.1.1.2, hb.1.2, ?_⟩
    have h4 := hb.2
    split at h4
    ·rename_i d hd
     exact ⟨d, hd, fun y hy => by simpa using List.all_eq_true.1 h4 y hy⟩
    ·cases h4
   ·cases h
  ·cases h
 case typeAssert x xt t ok => (repeat' split at h) <;> cases h <;> trivial
 case extract x i => split at h <;> cases h; simp_all
 case makeMap t r => split at h <;> cases h; trivial
 case range t x => (repeat' split at h) <;> cases h; trivial
 case next x s => (repeat' split at h) <;> cases h; trivial
 case lookup t x i ok => (repeat' split at h) <;> cases h; trivial
 case mapUpdate t x i y => (repeat' split at h) <;> cases h; trivial
 case makeFunc g b c => cases h; trivial
 case makeInterface t x => split at h <;> cases h <;> trivial
 case call c =>
  obtain ⟨callee, args, ats⟩ := c
  cases callee with
  | builtin b =>
   simp only at h hb
   unfold aBuiltin at h
   split at h
   ·rename_i s hs
    cases h
    simp only [hs] at hb
    unfold isStrT at hb
    split at hb
    ·rename_i t ht
     split at hb
     ·rename_i hu
      simp [ht, hu]
     ·cases hb
    ·cases hb
   ·split at h <;> cases h; trivial
   ·split at h <;> cases h; trivial
   ·cases h; trivial
   ·cases h; trivial
   ·rename_i o xs y hs
    simp only [hs] at hb
    split at h
    ·rename_i t t' ys ht hy
     simp only [ht, hy] at hb
     split at h
     ·rename_i e he
      simp only [he] at hb
      split at h
      ·rename_i d td hd _
       simp only [hd, Bool.and_eq_true, decide_eq_true_eq] at hb
       split at h
       ·cases h
        obtain ⟨⟨⟨⟨h1, h2⟩, h3⟩, h4⟩, h5⟩ := hb
        exact ⟨freeB_iff h1, fun x hx => by simpa using List.all_eq_true.1 h2 x hx, fun x hx => by simpa using List.all_eq_true.1 h3 x hx, h4, h5⟩
       ·cases h
      ·cases h
     ·cases h
    ·cases h
   ·(repeat' split at h) <;> cases h; trivial
   ·(repeat' split at h) <;> cases h; trivial
   ·cases h
  | value g => simp only at h; (repeat' split at h) <;> cases h
  | invoke g n => simp only at h; (repeat' split at h) <;> cases h
theorem ePre_sound {P : Program} {mu : Bool} {op : Op} {f : F} {m m' : M} {p : Prop} {v : PV} (h : aStep P mu op f m = .ok p v m') (hb : ePre P mu op f m = true) : p := by
 unfold aStep aOr at h
 cases hg : aGrow P mu op f m with
 | none => rw [hg] at h; exact ePre_sound0 h hb
 | some r =>
  rw [hg] at h
  simp only at h
  subst h
  exfalso
  cases op <;> simp only [aGrow, reduceCtorEq] at hg <;> simp only [ePre, Bool.false_eq_true] at hb
  case indexAddr t x i =>
   unfold gIx at hg
   split at hg
   ·rename_i id len cap hev
    simp [hev] at hb
   ·cases hg
  case binOp op t x y yt =>
   split at hg
   ·unfold gNil at hg
    split at hg <;> cases hg
   ·cases hg
  case slice t x lo hi mx =>
   unfold gSl at hg
   split at hg
   ·rename_i id len cap hev
    simp [hev] at hb
   ·cases hg
  case call c =>
   obtain ⟨callee, args, ats⟩ := c
   cases callee with
   | builtin b =>
    simp only at hg hb
    unfold gBu at hg
    split at hg
    ·rename_i heq
     simp [heq] at hb
    ·rename_i heq
     simp [heq] at hb
    ·rename_i heq
     split at hg
     ·simp only [Option.some.injEq] at hg
      split at hg
      ·unfold gAppN at hg
       repeat' split at hg
       all_goals cases hg
      ·cases hg
     ·cases hg
    ·cases hg
   | value g => cases hg
   | invoke g n => cases hg
end Go.Proofs.YtohgdopfjkjppaaGreatDoor
