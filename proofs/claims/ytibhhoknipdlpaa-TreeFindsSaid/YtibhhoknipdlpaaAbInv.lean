/-
  What a value of the program's own types looks like.
-/
import Derived.Test.YtibhhoknipdlpaaAbTr7
import Derived.Test.YtibhhoknipdlpaaAbLaw
set_option linter.unusedVariables false
set_option linter.unusedSimpArgs false
namespace Go.Proofs.Ytibhhoknipdlpaa
open Go

section
variable {P : Program}
theorem int_of {t : TypeId} {k : IntKind} (h : P.underlying t = some (.int k)) : ∀ {n : Nat} {p : List PV}, TyCs P n t p → ∃ i, p = [.v (.int k i)]
  | 0, _, hh => hh.elim
  | n + 1, p, hh => by
    simp only [TyCs, h] at hh
    obtain ⟨i, h1, _⟩ := hh
    exact ⟨i, h1⟩
theorem bool_of {t : TypeId} (h : P.underlying t = some .bool) : ∀ {n : Nat} {p : List PV}, TyCs P n t p → ∃ i, p = [.v (.bool i)]
  | 0, _, hh => hh.elim
  | n + 1, p, hh => by simpa only [TyCs, h] using hh
theorem str_of {t : TypeId} (h : P.underlying t = some .string) : ∀ {n : Nat} {p : List PV}, TyCs P n t p → ∃ i, p = [.v (.string i)]
  | 0, _, hh => hh.elim
  | n + 1, p, hh => by
    simp only [TyCs, h] at hh
    obtain ⟨i, h1, _⟩ := hh
    exact ⟨i, h1⟩
theorem list_of {α : Type} (g : α → PV) : ∀ {xs : List PV}, (∀ x ∈ xs, ∃ e, x = g e) → ∃ es : List α, xs = es.map g
  | [], _ => ⟨[], rfl⟩
  | x :: xs, h => by
    obtain ⟨e, he⟩ := h x (by simp)
    obtain ⟨es, hes⟩ := list_of g (xs := xs) (fun y hy => h y (by simp [hy]))
    exact ⟨e :: es, by rw [he, hes]; rfl⟩
theorem slice_of {t e : TypeId} (h : P.underlying t = some (.slice e)) {α : Type} (g : α → PV) : ∀ {n : Nat} {p : List PV}, (∀ m, m < n → ∀ x : PV, TyCs P m e x.cells → (if aggT P e then x = .ag x.cells else x.cells = [x]) → ∃ a, x = g a) → TyCs P n t p → ∃ l : List α, p = [.sl .no (l.map g)]
  | 0, _, _, hh => hh.elim
  | n + 1, p, hg, hh => by
    simp only [TyCs, h] at hh
    obtain ⟨xs, h1, _, h3⟩ := hh
    obtain ⟨es, rfl⟩ := list_of g (fun x hx => hg n (by omega) x (h3 x hx).1 (h3 x hx).2)
    exact ⟨es, h1⟩
theorem strs_of {t e : TypeId} (h : P.underlying t = some (.slice e)) (he : P.underlying e = some .string) {n : Nat} {p : List PV} (hh : TyCs P n t p) : ∃ l : List Str, p = [.sl .no (l.map pS)] := by
  refine slice_of h pS (fun m _ x hx hi => ?_) hh
  have ha : aggT P e = false := by simp [aggT, he]
  rw [if_neg (by simp [ha])] at hi
  obtain ⟨s, hs⟩ := str_of he hx
  rw [hi] at hs
  exact ⟨s, by simpa using hs⟩
theorem struct_of {t : TypeId} {fs : Array Field} {ts : List TypeId} (hu : P.underlying t = some (.struct fs)) (hts : fs.toList.map (·.type) = ts) : ∀ {n : Nat} {p : List PV}, TyCs P n t p → ∃ m, m < n ∧ TyLs (TyCs P m) ts p
  | 0, _, h => h.elim
  | n + 1, p, h => by
    simp only [TyCs, hu] at h
    exact ⟨n, by omega, by rw [← hts]; exact h⟩
theorem agg_of {t : TypeId} {fs : Array Field} (hu : P.underlying t = some (.struct fs)) {x : PV} (h : if aggT P t then x = .ag x.cells else x.cells = [x]) : x = .ag x.cells := by
  have ha : aggT P t = true := by simp [aggT, hu]
  rwa [if_pos ha] at h
end

set_option maxRecDepth 20000 in
theorem pos_of {n : Nat} {p : List PV} (h : TyCs Try.prog n 37 p) : ∃ a b, p = [.v (.int .i64 a), .v (.int .i64 b)] := by
  obtain ⟨m, _, h⟩ := struct_of Try.underlying37 (ts := [3, 3]) rfl h
  obtain ⟨p1, _, rfl, h1, p2, _, rfl, h2, rfl⟩ := h
  obtain ⟨a, rfl⟩ := int_of Try.underlying3 h1
  obtain ⟨b, rfl⟩ := int_of Try.underlying3 h2
  exact ⟨a, b, rfl⟩
set_option maxRecDepth 20000 in
theorem ex_of : ∀ (n : Nat) {p : List PV}, TyCs Try.prog n 44 p → ∃ e : Ex, p = e.cs := by
  intro n
  induction n using Nat.strongRecOn with
  | ind n ih =>
  intro p h
  obtain ⟨m, hm, h⟩ := struct_of Try.underlying44 (ts := [5, 5, 21, 9, 41, 30, 37]) rfl h
  obtain ⟨p1, _, rfl, h1, p2, _, rfl, h2, p3, _, rfl, h3, p4, _, rfl, h4, p5, _, rfl, h5, p6, _, rfl, h6, p7, _, rfl, h7, rfl⟩ := h
  obtain ⟨k, rfl⟩ := int_of Try.underlying5 h1
  obtain ⟨o, rfl⟩ := int_of Try.underlying5 h2
  obtain ⟨i, rfl⟩ := int_of Try.underlying21 h3
  obtain ⟨nm, rfl⟩ := str_of Try.underlying9 h4
  obtain ⟨ns, rfl⟩ := strs_of Try.underlying41 Try.underlying9 h5
  obtain ⟨ks, rfl⟩ := slice_of Try.underlying30 Ex.pv (fun m' hm' x hx hi => by
    obtain ⟨e, he⟩ := ih m' (by omega) hx
    refine ⟨e, ?_⟩
    rw [agg_of (P := Try.prog) (t := 44) Try.underlying44 hi, he, e.pv_eq]) h6
  obtain ⟨li, co, rfl⟩ := pos_of h7
  exact ⟨.mk k o i nm ns ks li co, rfl⟩
set_option maxRecDepth 20000 in
theorem on_of {n : Nat} {x : PV} (h : TyCs Try.prog n 63 x.cells) (hi : if aggT Try.prog 63 then x = .ag x.cells else x.cells = [x]) : ∃ a : On, x = a.pv := by
  have hx := agg_of (P := Try.prog) (t := 63) Try.underlying63 hi
  obtain ⟨m, _, h⟩ := struct_of Try.underlying63 (ts := [9, 9]) rfl h
  obtain ⟨p1, _, e1, h1, p2, _, rfl, h2, rfl⟩ := h
  obtain ⟨a, rfl⟩ := str_of Try.underlying9 h1
  obtain ⟨b, rfl⟩ := str_of Try.underlying9 h2
  exact ⟨⟨a, b⟩, by rw [hx, e1]; rfl⟩
set_option maxRecDepth 20000 in
theorem va_of {n : Nat} {p : List PV} (h : TyCs Try.prog n 52 p) : ∃ v : Va, p = v.cs := by
  obtain ⟨m, hm, h⟩ := struct_of Try.underlying52 (ts := [9, 49, 50, 4, 44, 37]) rfl h
  obtain ⟨p1, _, rfl, h1, p2, _, rfl, h2, p3, _, rfl, h3, p4, _, rfl, h4, p5, _, rfl, h5, p6, _, rfl, h6, rfl⟩ := h
  obtain ⟨nm, rfl⟩ := str_of Try.underlying9 h1
  obtain ⟨m2, _, h2⟩ := struct_of Try.underlying49 (ts := [5, 9]) rfl h2
  obtain ⟨q1, _, rfl, g1, q2, _, rfl, g2, rfl⟩ := h2
  obtain ⟨tk, rfl⟩ := int_of Try.underlying5 g1
  obtain ⟨tn, rfl⟩ := str_of Try.underlying9 g2
  obtain ⟨cl, rfl⟩ := slice_of Try.underlying50 On.pv (fun m' _ x hx hi => on_of hx hi) h3
  obtain ⟨la, rfl⟩ := bool_of Try.underlying4 h4
  obtain ⟨e, rfl⟩ := ex_of _ h5
  obtain ⟨li, co, rfl⟩ := pos_of h6
  exact ⟨⟨nm, ⟨tk, tn⟩, cl, la, e, li, co⟩, rfl⟩
end Go.Proofs.Ytibhhoknipdlpaa
