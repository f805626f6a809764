/-
  errors.Is about a kind: of a kind, of an At within an At, of an At of nothing; errors.As of a kind.
-/
import Derived.Test.YtofnlkogpljmmaaDoorAbIs
import Derived.Test.YtofnlkogpljmmaaDoorAbAs2
set_option linter.unusedVariables false
set_option linter.unusedSimpArgs false
namespace Go.Proofs.YtofnlkogpljmmaaDoor
open Go Go.RowKit Go.Extern.Stop Go.Stop Go.Extern

set_option maxRecDepth 20000 in
set_option maxHeartbeats 1000000 in
theorem is_kd (k k' : Int) (w : World) :
    Calls Tryd.prog 21 #[.iface 26 (.int .i64 k'), .iface 26 (.int .i64 k)] w fun e w' => e = .returned (.bool (k' == k)) ∧ w' = w := by
  obtain ⟨i, hi, hcmp⟩ := Option.map_eq_some_iff.1 isComp
  have hT := callTypeOf
  have hC := callComparable
  have mR := isMethodComparable
  have nK := noIsK
  have uK := noUnK
  have vK := noUsK
  have heq := eql_int (P := Tryd.prog) k' k Tryd.underlying24 Tryd.underlying26 hi hcmp w
  go_enter Tryd.func21, Tryd.ntmps21
  go_wp2
  refine wp_loop_rounds 1 ?_
  rw [rounds_succ]
  go_wp2
  all_goals (
    rename_i hk
    go_ret
    exact ⟨(by rw [hk]; rfl), rfl⟩)
set_option maxRecDepth 20000 in
set_option maxHeartbeats 1000000 in
theorem is_nil (b o : Nat) (k : Int) (w : World) (h1 : w.cell? ⟨b, o + 4, none⟩ = some .nilIface) :
    Calls Tryd.prog 21 #[.iface 35 (.pointer (some ⟨b, o, none⟩)), .iface 26 (.int .i64 k)] w fun e w' => e = .returned (.bool false) ∧ w' = w := by
  have hT := callTypeOf
  have hC := callComparable
  have mR := isMethodComparable
  have nA := noIsA
  have uA := hasUnA
  have mU := methodUnwrap
  have hty := run_eql_iface_types (P := Tryd.prog) 35 26 (.pointer (some ⟨b, o, none⟩)) (.int .i64 k) Tryd.underlying24 (by decide) w
  go_enter Tryd.func21, Tryd.ntmps21
  go_wp2
  refine wp_loop_rounds 1 ?_
  rw [rounds_succ]
  go_wp2
  go_ret
  exact ⟨rfl, rfl⟩
set_option maxRecDepth 20000 in
set_option maxHeartbeats 1000000 in
theorem is_at2 (b o b' o' : Nat) (k k' : Int) (w : World) (h1 : w.cell? ⟨b, o + 4, none⟩ = some (.iface 35 (.pointer (some ⟨b', o', none⟩)))) (h2 : w.cell? ⟨b', o' + 4, none⟩ = some (.iface 26 (.int .i64 k'))) :
    Calls Tryd.prog 21 #[.iface 35 (.pointer (some ⟨b, o, none⟩)), .iface 26 (.int .i64 k)] w fun e w' => e = .returned (.bool (k' == k)) ∧ w' = w := by
  obtain ⟨i, hi, hcmp⟩ := Option.map_eq_some_iff.1 isComp
  have hT := callTypeOf
  have hC := callComparable
  have mR := isMethodComparable
  have nA := noIsA
  have nK := noIsK
  have uK := noUnK
  have vK := noUsK
  have uA := hasUnA
  have mU := methodUnwrap
  have hty := run_eql_iface_types (P := Tryd.prog) 35 26 (.pointer (some ⟨b, o, none⟩)) (.int .i64 k) Tryd.underlying24 (by decide) w
  have hty2 := run_eql_iface_types (P := Tryd.prog) 35 26 (.pointer (some ⟨b', o', none⟩)) (.int .i64 k) Tryd.underlying24 (by decide) w
  have heq := eql_int (P := Tryd.prog) k' k Tryd.underlying24 Tryd.underlying26 hi hcmp w
  go_enter Tryd.func21, Tryd.ntmps21
  go_wp2
  refine wp_loop_rounds 3 ?_
  rw [rounds_succ]
  go_wp2
  rw [rounds_succ]
  go_wp2
  rw [rounds_succ]
  go_wp2
  all_goals (
    rename_i hk
    go_ret
    exact ⟨(by rw [hk]; rfl), rfl⟩)

theorem two_args {vs : List Value} (hl : 2 = vs.length) : ∃ v0 v1, vs = [v0, v1] := by
  match vs, hl with
  | [v0, v1], _ => exact ⟨v0, v1, rfl⟩
theorem kd_any (k k' : Int) (m : M) : ACalls Tryd.prog 21 [.ifc 26 (.v (.int .i64 k')), .ifc 26 (.v (.int .i64 k))] m (fun v m' => v = .v (.bool (k' == k)) ∧ m' = m) := by
  refine ⟨by kernel_rfl, fun G w vs hI hl hr => ?_⟩
  obtain ⟨v0, v1, rfl⟩ := two_args hl
  have h0 := hr 0 (by simp) (by simp)
  have h1 := hr 1 (by simp) (by simp)
  simp only [List.getElem_cons_zero, List.getElem_cons_succ] at h0 h1
  cases h0 with
  | ifc _ _ y h0 =>
    cases h0
    cases h1 with
    | ifc _ _ y1 h1 =>
      cases h1
      refine (is_kd k k' w).mono ?_
      rintro e w' ⟨he, rfl⟩
      exact .inl ⟨_, .v (.bool (k' == k)), m, G, he, ⟨rfl, rfl⟩, .v rfl, hI, Ext.refl _ _⟩
theorem isnil_any (cells : List PV) (k : Int) (m : M) (hc : cells[4]? = some (.v .nilIface)) :
    ACalls Tryd.prog 21 [.ifc 35 (.ep cells), .ifc 26 (.v (.int .i64 k))] m (fun v m' => v = .v (.bool false) ∧ m' = m) := by
  refine ⟨by kernel_rfl, fun G w vs hI hl hr => ?_⟩
  obtain ⟨v0, v1, rfl⟩ := two_args hl
  have h0 := hr 0 (by simp) (by simp)
  have h1 := hr 1 (by simp) (by simp)
  simp only [List.getElem_cons_zero, List.getElem_cons_succ] at h0 h1
  obtain ⟨hlt, hc4⟩ := List.getElem?_eq_some_iff.1 hc
  cases h0 with
  | ifc _ _ y h0 =>
    cases h0 with
    | ep _ b off c hcc hp hrr =>
      cases h1 with
      | ifc _ _ y1 h1 =>
        cases h1
        have h4 := hrr 4 hlt
        rw [hc4] at h4
        have hcell := (hcc 4 hlt).1
        generalize c 4 = u at h4 hcell
        cases h4
        refine (is_nil b off k w hcell).mono ?_
        rintro e w' ⟨he, rfl⟩
        exact .inl ⟨_, .v (.bool false), m, G, he, ⟨rfl, rfl⟩, .v rfl, hI, Ext.refl _ _⟩
theorem is2_any (cells cells' : List PV) (k k' : Int) (m : M) (hc : cells[4]? = some (.ifc 35 (.ep cells'))) (hc' : cells'[4]? = some (.ifc 26 (.v (.int .i64 k')))) :
    ACalls Tryd.prog 21 [.ifc 35 (.ep cells), .ifc 26 (.v (.int .i64 k))] m (fun v m' => v = .v (.bool (k' == k)) ∧ m' = m) := by
  refine ⟨by kernel_rfl, fun G w vs hI hl hr => ?_⟩
  obtain ⟨v0, v1, rfl⟩ := two_args hl
  have h0 := hr 0 (by simp) (by simp)
  have h1 := hr 1 (by simp) (by simp)
  simp only [List.getElem_cons_zero, List.getElem_cons_succ] at h0 h1
  obtain ⟨hlt, hc4⟩ := List.getElem?_eq_some_iff.1 hc
  obtain ⟨hlt', hc4'⟩ := List.getElem?_eq_some_iff.1 hc'
  cases h0 with
  | ifc _ _ y h0 =>
    cases h0 with
    | ep _ b off c hcc hp hrr =>
      cases h1 with
      | ifc _ _ y1 h1 =>
        cases h1
        have h4 := hrr 4 hlt
        rw [hc4] at h4
        have hcell := (hcc 4 hlt).1
        generalize c 4 = u at h4 hcell
        cases h4 with
        | ifc _ _ y2 h2 =>
          cases h2 with
          | ep _ b' off' c' hcc' hp' hrr' =>
            have h5 := hrr' 4 hlt'
            rw [hc4'] at h5
            have hcell' := (hcc' 4 hlt').1
            generalize c' 4 = u' at h5 hcell'
            cases h5 with
            | ifc _ _ y3 h3 =>
              cases h3
              refine (is_at2 b off b' off' k k' w hcell hcell').mono ?_
              rintro e w' ⟨he, rfl⟩
              exact .inl ⟨_, .v (.bool (k' == k)), m, G, he, ⟨rfl, rfl⟩, .v rfl, hI, Ext.refl _ _⟩

/-- What errors.Is answers of an error that is known, about a kind. -/
def isF : PV → Option (Option Int)
  | PV.ifc t (PV.ep cells) => if t = 35 then (match cells[4]? with
    | some (PV.ifc t2 (PV.v (Value.int IntKind.i64 k'))) => if t2 = 26 then some (some k') else none
    | some (PV.v Value.nilIface) => some none
    | some (PV.ifc t2 (PV.ep cells')) => if t2 = 35 then (match cells'[4]? with
      | some (PV.ifc t3 (PV.v (Value.int IntKind.i64 k'))) => if t3 = 26 then some (some k') else none
      | _ => none) else none
    | _ => none) else none
  | PV.ifc t (PV.v (Value.int IntKind.i64 k')) => if t = 26 then some (some k') else none
  | _ => none
def isE (o : Option Int) (k : Int) : Bool := match o with
  | some k' => k' == k
  | none => false
theorem isF_any (x : PV) (o : Option Int) (h : isF x = some o) (k : Int) (m : M) : ACalls Tryd.prog 21 [x, .ifc 26 (.v (.int .i64 k))] m (fun v m' => v = .v (.bool (isE o k)) ∧ m' = m) := by
  unfold isF at h
  split at h
  · split at h
    · rename_i ht
      subst ht
      split at h
      · split at h
        · rename_i ht2
          subst ht2
          cases h
          exact is_any _ _ _ m (by assumption)
        · cases h
      · cases h
        exact isnil_any _ _ m (by assumption)
      · split at h
        · rename_i ht2
          subst ht2
          split at h
          · split at h
            · rename_i ht3
              subst ht3
              cases h
              exact is2_any _ _ _ _ m (by assumption) (by assumption)
            · cases h
          · cases h
        · cases h
      · cases h
    · cases h
  · split at h
    · rename_i ht
      subst ht
      cases h
      exact kd_any _ _ m
    · cases h
  · cases h
def isHook2 : CallR := fun g args m => if g = 21 then (match args with
  | [x, PV.ifc t' (PV.v (Value.int IntKind.i64 k))] => if t' = 26 then (match isF x with
    | some o => some (.val (.v (.bool (isE o k))) m)
    | none => none) else none
  | _ => none) else none
theorem isHook2_ok : CallOk Tryd.prog isHook2 := by
  intro g args m r h
  unfold isHook2 at h
  split at h
  · rename_i hg
    subst hg
    split at h
    · split at h
      · rename_i ht
        subst ht
        split at h
        · rename_i o ho
          cases h
          exact isF_any _ _ ho _ m
        · cases h
      · cases h
    · cases h
  · cases h
end Go.Proofs.YtofnlkogpljmmaaDoor
