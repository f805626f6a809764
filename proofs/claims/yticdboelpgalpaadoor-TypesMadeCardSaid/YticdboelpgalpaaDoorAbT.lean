/-
  Closed facts on the types of this seat.
-/
import Derived.Test.YticdboelpgalpaaDoorRows
import Derived.Test.YticdboelpgalpaaDoorAbFn
import Derived.KernelRfl
namespace Go.Proofs.YticdboelpgalpaaDoor
open Go Go.RowKit
theorem ok_mix : Tryd.prog.follows .mixedOrders = true := by kernel_rfl
theorem td_3 : tdat Tryd.prog 3 = some ⟨false, 1, 8, .int .i64 0⟩ := by kernel_rfl
theorem zv_3 : ofV (.int .i64 0) = .v (.int .i64 0) := by kernel_rfl
theorem td_4 : tdat Tryd.prog 4 = some ⟨false, 1, 1, .bool false⟩ := by kernel_rfl
theorem zv_4 : ofV (.bool false) = .v (.bool false) := by kernel_rfl
theorem td_5 : tdat Tryd.prog 5 = some ⟨false, 1, 1, .int .u8 0⟩ := by kernel_rfl
theorem zv_5 : ofV (.int .u8 0) = .v (.int .u8 0) := by kernel_rfl
theorem td_9 : tdat Tryd.prog 9 = some ⟨false, 1, 16, .string ⟨#[]⟩⟩ := by kernel_rfl
theorem zv_9 : ofV (.string ⟨#[]⟩) = .v (.string ⟨#[]⟩) := by kernel_rfl
theorem nk_15 : nkT Tryd.prog 15 = some .nkp := by kernel_rfl
theorem nk_16 : nkT Tryd.prog 16 = some .nkp := by kernel_rfl
theorem nk_17 : nkT Tryd.prog 17 = some .nkp := by kernel_rfl
theorem nk_20 : nkT Tryd.prog 20 = some .nki := by kernel_rfl
theorem td_20 : tdat Tryd.prog 20 = some ⟨false, 1, 16, .nilIface⟩ := by kernel_rfl
theorem zv_20 : ofV (.nilIface) = .v .nilIface := by kernel_rfl
theorem td_21 : tdat Tryd.prog 21 = some ⟨false, 1, 4, .int .i32 0⟩ := by kernel_rfl
theorem zv_21 : ofV (.int .i32 0) = .v (.int .i32 0) := by kernel_rfl
theorem td_22 : tdat Tryd.prog 22 = some ⟨false, 1, 24, .slice none 0 0⟩ := by kernel_rfl
theorem zv_22 : ofV (.slice none 0 0) = .sl .full [] := by kernel_rfl
theorem tel_22 : tel Tryd.prog 22 = some 9 := by kernel_rfl
theorem td_24 : tdat Tryd.prog 24 = some ⟨true, 2, 16, .agg #[.int .i64 0, .int .i64 0]⟩ := by kernel_rfl
theorem zv_24 : ofV (.agg #[.int .i64 0, .int .i64 0]) = .ag [.v (.int .i64 0), .v (.int .i64 0)] := by kernel_rfl
theorem tf_24 : tflds Tryd.prog 24 = some [(0, 1, false), (1, 1, false)] := by kernel_rfl
theorem td_26 : tdat Tryd.prog 26 = some ⟨true, 4, 56, .agg #[.string ⟨#[]⟩, .slice none 0 0, .int .i64 0, .int .i64 0]⟩ := by kernel_rfl
theorem zv_26 : ofV (.agg #[.string ⟨#[]⟩, .slice none 0 0, .int .i64 0, .int .i64 0]) = .ag [.v (.string ⟨#[]⟩), .sl .full [], .v (.int .i64 0), .v (.int .i64 0)] := by kernel_rfl
theorem tf_26 : tflds Tryd.prog 26 = some [(0, 1, false), (1, 1, false), (2, 2, true)] := by kernel_rfl
theorem td_27 : tdat Tryd.prog 27 = some ⟨false, 1, 24, .slice none 0 0⟩ := by kernel_rfl
theorem zv_27 : ofV (.slice none 0 0) = .sl .full [] := by kernel_rfl
theorem tel_27 : tel Tryd.prog 27 = some 26 := by kernel_rfl
theorem td_28 : tdat Tryd.prog 28 = some ⟨false, 1, 24, .slice none 0 0⟩ := by kernel_rfl
theorem zv_28 : ofV (.slice none 0 0) = .sl .full [] := by kernel_rfl
theorem tel_28 : tel Tryd.prog 28 = some 65 := by kernel_rfl
theorem td_30 : tdat Tryd.prog 30 = some ⟨true, 2, 48, .agg #[.slice none 0 0, .slice none 0 0]⟩ := by kernel_rfl
theorem zv_30 : ofV (.agg #[.slice none 0 0, .slice none 0 0]) = .ag [.sl .full [], .sl .full []] := by kernel_rfl
theorem tf_30 : tflds Tryd.prog 30 = some [(0, 1, false), (1, 1, false)] := by kernel_rfl
theorem td_31 : tdat Tryd.prog 31 = some ⟨false, 1, 24, .slice none 0 0⟩ := by kernel_rfl
theorem zv_31 : ofV (.slice none 0 0) = .sl .full [] := by kernel_rfl
theorem tel_31 : tel Tryd.prog 31 = some 33 := by kernel_rfl
theorem td_33 : tdat Tryd.prog 33 = some ⟨true, 8, 88, .agg #[.int .u8 0, .int .u8 0, .int .i32 0, .string ⟨#[]⟩, .slice none 0 0, .slice none 0 0, .int .i64 0, .int .i64 0]⟩ := by kernel_rfl
theorem zv_33 : ofV (.agg #[.int .u8 0, .int .u8 0, .int .i32 0, .string ⟨#[]⟩, .slice none 0 0, .slice none 0 0, .int .i64 0, .int .i64 0]) = .ag [.v (.int .u8 0), .v (.int .u8 0), .v (.int .i32 0), .v (.string ⟨#[]⟩), .sl .full [], .sl .full [], .v (.int .i64 0), .v (.int .i64 0)] := by kernel_rfl
theorem tf_33 : tflds Tryd.prog 33 = some [(0, 1, false), (1, 1, false), (2, 1, false), (3, 1, false), (4, 1, false), (5, 1, false), (6, 2, true)] := by kernel_rfl
theorem td_35 : tdat Tryd.prog 35 = some ⟨true, 2, 24, .agg #[.int .u8 0, .string ⟨#[]⟩]⟩ := by kernel_rfl
theorem zv_35 : ofV (.agg #[.int .u8 0, .string ⟨#[]⟩]) = .ag [.v (.int .u8 0), .v (.string ⟨#[]⟩)] := by kernel_rfl
theorem tf_35 : tflds Tryd.prog 35 = some [(0, 1, false), (1, 1, false)] := by kernel_rfl
theorem fl_35 : flat1 Tryd.prog 35 = some [.ski, .sks] := by kernel_rfl
theorem nk_36 : nkT Tryd.prog 36 = some .nki := by kernel_rfl
theorem nk_37 : nkT Tryd.prog 37 = some .nki := by kernel_rfl
theorem td_37 : tdat Tryd.prog 37 = some ⟨false, 1, 16, .nilIface⟩ := by kernel_rfl
theorem zv_37 : ofV (.nilIface) = .v .nilIface := by kernel_rfl
theorem td_44 : tdat Tryd.prog 44 = some ⟨false, 1, 24, .slice none 0 0⟩ := by kernel_rfl
theorem zv_44 : ofV (.slice none 0 0) = .sl .full [] := by kernel_rfl
theorem tel_44 : tel Tryd.prog 44 = some 5 := by kernel_rfl
theorem td_48 : tdat Tryd.prog 48 = some ⟨false, 1, 24, .slice none 0 0⟩ := by kernel_rfl
theorem zv_48 : ofV (.slice none 0 0) = .sl .full [] := by kernel_rfl
theorem tel_48 : tel Tryd.prog 48 = some 69 := by kernel_rfl
theorem nk_50 : nkT Tryd.prog 50 = some .nkp := by kernel_rfl
theorem td_50 : tdat Tryd.prog 50 = some ⟨false, 1, 8, .pointer none⟩ := by kernel_rfl
theorem zv_50 : ofV (.pointer none) = .v (.pointer none) := by kernel_rfl
theorem nk_51 : nkT Tryd.prog 51 = some .nkp := by kernel_rfl
theorem td_51 : tdat Tryd.prog 51 = some ⟨false, 1, 8, .pointer none⟩ := by kernel_rfl
theorem zv_51 : ofV (.pointer none) = .v (.pointer none) := by kernel_rfl
theorem td_53 : tdat Tryd.prog 53 = some ⟨true, 2, 48, .agg #[.slice none 0 0, .slice none 0 0]⟩ := by kernel_rfl
theorem zv_53 : ofV (.agg #[.slice none 0 0, .slice none 0 0]) = .ag [.sl .full [], .sl .full []] := by kernel_rfl
theorem tf_53 : tflds Tryd.prog 53 = some [(0, 2, true)] := by kernel_rfl
theorem nk_55 : nkT Tryd.prog 55 = some .nkp := by kernel_rfl
theorem td_61 : tdat Tryd.prog 61 = some ⟨false, 1, 24, .slice none 0 0⟩ := by kernel_rfl
theorem zv_61 : ofV (.slice none 0 0) = .sl .full [] := by kernel_rfl
theorem tel_61 : tel Tryd.prog 61 = some 110 := by kernel_rfl
theorem td_63 : tdat Tryd.prog 63 = some ⟨true, 2, 48, .agg #[.slice none 0 0, .slice none 0 0]⟩ := by kernel_rfl
theorem zv_63 : ofV (.agg #[.slice none 0 0, .slice none 0 0]) = .ag [.sl .full [], .sl .full []] := by kernel_rfl
theorem tf_63 : tflds Tryd.prog 63 = some [(0, 1, false), (1, 1, false)] := by kernel_rfl
theorem td_65 : tdat Tryd.prog 65 = some ⟨true, 7, 128, .agg #[.string ⟨#[]⟩, .slice none 0 0, .slice none 0 0, .slice none 0 0, .slice none 0 0, .int .i64 0, .int .i64 0]⟩ := by kernel_rfl
theorem zv_65 : ofV (.agg #[.string ⟨#[]⟩, .slice none 0 0, .slice none 0 0, .slice none 0 0, .slice none 0 0, .int .i64 0, .int .i64 0]) = .ag [.v (.string ⟨#[]⟩), .sl .full [], .sl .full [], .sl .full [], .sl .full [], .v (.int .i64 0), .v (.int .i64 0)] := by kernel_rfl
theorem tf_65 : tflds Tryd.prog 65 = some [(0, 1, false), (1, 1, false), (2, 1, false), (3, 2, true), (5, 2, true)] := by kernel_rfl
theorem td_67 : tdat Tryd.prog 67 = some ⟨false, 1, 24, .slice none 0 0⟩ := by kernel_rfl
theorem zv_67 : ofV (.slice none 0 0) = .sl .full [] := by kernel_rfl
theorem tel_67 : tel Tryd.prog 67 = some 106 := by kernel_rfl
theorem td_69 : tdat Tryd.prog 69 = some ⟨true, 15, 176, .agg #[.string ⟨#[]⟩, .int .u8 0, .string ⟨#[]⟩, .slice none 0 0, .bool false, .int .u8 0, .int .u8 0, .int .i32 0, .string ⟨#[]⟩, .slice none 0 0, .slice none 0 0, .int .i64 0, .int .i64 0, .int .i64 0, .int .i64 0]⟩ := by kernel_rfl
theorem zv_69 : ofV (.agg #[.string ⟨#[]⟩, .int .u8 0, .string ⟨#[]⟩, .slice none 0 0, .bool false, .int .u8 0, .int .u8 0, .int .i32 0, .string ⟨#[]⟩, .slice none 0 0, .slice none 0 0, .int .i64 0, .int .i64 0, .int .i64 0, .int .i64 0]) = .ag [.v (.string ⟨#[]⟩), .v (.int .u8 0), .v (.string ⟨#[]⟩), .sl .full [], .v (.bool false), .v (.int .u8 0), .v (.int .u8 0), .v (.int .i32 0), .v (.string ⟨#[]⟩), .sl .full [], .sl .full [], .v (.int .i64 0), .v (.int .i64 0), .v (.int .i64 0), .v (.int .i64 0)] := by kernel_rfl
theorem tf_69 : tflds Tryd.prog 69 = some [(0, 1, false), (1, 2, true), (3, 1, false), (4, 1, false), (5, 8, true), (13, 2, true)] := by kernel_rfl
theorem nk_72 : nkT Tryd.prog 72 = some .nkp := by kernel_rfl
theorem td_72 : tdat Tryd.prog 72 = some ⟨false, 1, 8, .pointer none⟩ := by kernel_rfl
theorem zv_72 : ofV (.pointer none) = .v (.pointer none) := by kernel_rfl
theorem td_74 : tdat Tryd.prog 74 = some ⟨true, 2, 32, .agg #[.slice none 0 0, .int .i64 0]⟩ := by kernel_rfl
theorem zv_74 : ofV (.agg #[.slice none 0 0, .int .i64 0]) = .ag [.sl .full [], .v (.int .i64 0)] := by kernel_rfl
theorem tf_74 : tflds Tryd.prog 74 = some [(0, 1, false), (1, 1, false)] := by kernel_rfl
theorem nk_76 : nkT Tryd.prog 76 = some .nkp := by kernel_rfl
theorem td_76 : tdat Tryd.prog 76 = some ⟨false, 1, 8, .pointer none⟩ := by kernel_rfl
theorem zv_76 : ofV (.pointer none) = .v (.pointer none) := by kernel_rfl
theorem td_78 : tdat Tryd.prog 78 = some ⟨true, 5, 40, .agg #[.pointer none, .int .i64 0, .int .i64 0, .int .i64 0, .bool false]⟩ := by kernel_rfl
theorem zv_78 : ofV (.agg #[.pointer none, .int .i64 0, .int .i64 0, .int .i64 0, .bool false]) = .ag [.v (.pointer none), .v (.int .i64 0), .v (.int .i64 0), .v (.int .i64 0), .v (.bool false)] := by kernel_rfl
theorem tf_78 : tflds Tryd.prog 78 = some [(0, 1, false), (1, 1, false), (2, 1, false), (3, 1, false), (4, 1, false)] := by kernel_rfl
theorem td_81 : tdat Tryd.prog 81 = some ⟨true, 1, 16, .agg #[.nilIface]⟩ := by kernel_rfl
theorem zv_81 : ofV (.agg #[.nilIface]) = .ag [.v .nilIface] := by kernel_rfl
theorem tf_81 : tflds Tryd.prog 81 = some [(0, 1, false)] := by kernel_rfl
theorem td_82 : tdat Tryd.prog 82 = some ⟨false, 1, 24, .slice none 0 0⟩ := by kernel_rfl
theorem zv_82 : ofV (.slice none 0 0) = .sl .full [] := by kernel_rfl
theorem tel_82 : tel Tryd.prog 82 = some 35 := by kernel_rfl
theorem nk_90 : nkT Tryd.prog 90 = some .nkf := by kernel_rfl
theorem nk_98 : nkT Tryd.prog 98 = some .nkp := by kernel_rfl
theorem nk_100 : nkT Tryd.prog 100 = some .nkp := by kernel_rfl
theorem td_103 : tdat Tryd.prog 103 = some ⟨false, 1, 24, .slice none 0 0⟩ := by kernel_rfl
theorem zv_103 : ofV (.slice none 0 0) = .sl .full [] := by kernel_rfl
theorem tel_103 : tel Tryd.prog 103 = some 48 := by kernel_rfl
theorem td_106 : tdat Tryd.prog 106 = some ⟨true, 2, 32, .agg #[.string ⟨#[]⟩, .string ⟨#[]⟩]⟩ := by kernel_rfl
theorem zv_106 : ofV (.agg #[.string ⟨#[]⟩, .string ⟨#[]⟩]) = .ag [.v (.string ⟨#[]⟩), .v (.string ⟨#[]⟩)] := by kernel_rfl
theorem tf_106 : tflds Tryd.prog 106 = some [(0, 1, false), (1, 1, false)] := by kernel_rfl
theorem fl_106 : flat1 Tryd.prog 106 = some [.sks, .sks] := by kernel_rfl
theorem nk_107 : nkT Tryd.prog 107 = some .nkf := by kernel_rfl
theorem td_108 : tdat Tryd.prog 108 = some ⟨false, 1, 24, .slice none 0 0⟩ := by kernel_rfl
theorem zv_108 : ofV (.slice none 0 0) = .sl .full [] := by kernel_rfl
theorem tel_108 : tel Tryd.prog 108 = some 142 := by kernel_rfl
theorem td_110 : tdat Tryd.prog 110 = some ⟨true, 16, 208, .agg #[.int .u8 0, .slice none 0 0, .string ⟨#[]⟩, .slice none 0 0, .bool false, .int .u8 0, .int .u8 0, .int .i32 0, .string ⟨#[]⟩, .slice none 0 0, .slice none 0 0, .int .i64 0, .int .i64 0, .slice none 0 0, .int .i64 0, .int .i64 0]⟩ := by kernel_rfl
theorem zv_110 : ofV (.agg #[.int .u8 0, .slice none 0 0, .string ⟨#[]⟩, .slice none 0 0, .bool false, .int .u8 0, .int .u8 0, .int .i32 0, .string ⟨#[]⟩, .slice none 0 0, .slice none 0 0, .int .i64 0, .int .i64 0, .slice none 0 0, .int .i64 0, .int .i64 0]) = .ag [.v (.int .u8 0), .sl .full [], .v (.string ⟨#[]⟩), .sl .full [], .v (.bool false), .v (.int .u8 0), .v (.int .u8 0), .v (.int .i32 0), .v (.string ⟨#[]⟩), .sl .full [], .sl .full [], .v (.int .i64 0), .v (.int .i64 0), .sl .full [], .v (.int .i64 0), .v (.int .i64 0)] := by kernel_rfl
theorem tf_110 : tflds Tryd.prog 110 = some [(0, 1, false), (1, 1, false), (2, 1, false), (3, 1, false), (4, 1, false), (5, 8, true), (13, 1, false), (14, 2, true)] := by kernel_rfl
theorem td_116 : tdat Tryd.prog 116 = some ⟨true, 3, 72, .agg #[.slice none 0 0, .slice none 0 0, .slice none 0 0]⟩ := by kernel_rfl
theorem zv_116 : ofV (.agg #[.slice none 0 0, .slice none 0 0, .slice none 0 0]) = .ag [.sl .full [], .sl .full [], .sl .full []] := by kernel_rfl
theorem tf_116 : tflds Tryd.prog 116 = some [(0, 1, false), (1, 1, false), (2, 1, false)] := by kernel_rfl
theorem nk_124 : nkT Tryd.prog 124 = some .nki := by kernel_rfl
theorem nk_125 : nkT Tryd.prog 125 = some .nki := by kernel_rfl
theorem td_140 : tdat Tryd.prog 140 = some ⟨false, 1, 24, .slice none 0 0⟩ := by kernel_rfl
theorem zv_140 : ofV (.slice none 0 0) = .sl .full [] := by kernel_rfl
theorem tel_140 : tel Tryd.prog 140 = some 172 := by kernel_rfl
theorem td_142 : tdat Tryd.prog 142 = some ⟨true, 7, 128, .agg #[.string ⟨#[]⟩, .slice none 0 0, .slice none 0 0, .slice none 0 0, .slice none 0 0, .int .i64 0, .int .i64 0]⟩ := by kernel_rfl
theorem zv_142 : ofV (.agg #[.string ⟨#[]⟩, .slice none 0 0, .slice none 0 0, .slice none 0 0, .slice none 0 0, .int .i64 0, .int .i64 0]) = .ag [.v (.string ⟨#[]⟩), .sl .full [], .sl .full [], .sl .full [], .sl .full [], .v (.int .i64 0), .v (.int .i64 0)] := by kernel_rfl
theorem tf_142 : tflds Tryd.prog 142 = some [(0, 1, false), (1, 2, true), (3, 1, false), (4, 1, false), (5, 2, true)] := by kernel_rfl
theorem td_144 : tdat Tryd.prog 144 = some ⟨false, 1, 24, .slice none 0 0⟩ := by kernel_rfl
theorem zv_144 : ofV (.slice none 0 0) = .sl .full [] := by kernel_rfl
theorem tel_144 : tel Tryd.prog 144 = some 21 := by kernel_rfl
theorem nk_153 : nkT Tryd.prog 153 = some .nkp := by kernel_rfl
theorem nk_154 : nkT Tryd.prog 154 = some .nki := by kernel_rfl
theorem nk_157 : nkT Tryd.prog 157 = some .nki := by kernel_rfl
theorem nk_159 : nkT Tryd.prog 159 = some .nki := by kernel_rfl
theorem nk_164 : nkT Tryd.prog 164 = some .nki := by kernel_rfl
theorem nk_168 : nkT Tryd.prog 168 = some .nkf := by kernel_rfl
theorem nk_170 : nkT Tryd.prog 170 = some .nkf := by kernel_rfl
theorem td_172 : tdat Tryd.prog 172 = some ⟨true, 12, 128, .agg #[.int .u8 0, .int .u8 0, .int .i32 0, .string ⟨#[]⟩, .slice none 0 0, .slice none 0 0, .int .i64 0, .int .i64 0, .string ⟨#[]⟩, .bool false, .int .i64 0, .int .i64 0]⟩ := by kernel_rfl
theorem zv_172 : ofV (.agg #[.int .u8 0, .int .u8 0, .int .i32 0, .string ⟨#[]⟩, .slice none 0 0, .slice none 0 0, .int .i64 0, .int .i64 0, .string ⟨#[]⟩, .bool false, .int .i64 0, .int .i64 0]) = .ag [.v (.int .u8 0), .v (.int .u8 0), .v (.int .i32 0), .v (.string ⟨#[]⟩), .sl .full [], .sl .full [], .v (.int .i64 0), .v (.int .i64 0), .v (.string ⟨#[]⟩), .v (.bool false), .v (.int .i64 0), .v (.int .i64 0)] := by kernel_rfl
theorem tf_172 : tflds Tryd.prog 172 = some [(0, 8, true), (8, 1, false), (9, 1, false), (10, 2, true)] := by kernel_rfl
theorem nk_193 : nkT Tryd.prog 193 = some .nkp := by kernel_rfl
theorem nk_202 : nkT Tryd.prog 202 = some .nkp := by kernel_rfl
set_option linter.defProp false
def tfA0 := And.intro @td_3 (And.intro @zv_3 (And.intro @Tryd.underlying3 (And.intro @td_4 (And.intro @zv_4 (And.intro @Tryd.underlying4 (And.intro @td_5 (And.intro @zv_5 (And.intro @Tryd.underlying5 (And.intro @td_9 (And.intro @zv_9 (And.intro @Tryd.underlying9 (And.intro @nk_15 (And.intro @nk_16 (And.intro @nk_17 (And.intro @nk_20 (And.intro @td_20 (And.intro @zv_20 (And.intro @td_21 (And.intro @zv_21 (And.intro @Tryd.underlying21 (And.intro @td_22 (And.intro @zv_22 (And.intro @tel_22 (And.intro @Tryd.underlying22 (And.intro @td_24 (And.intro @zv_24 (And.intro @tf_24 (And.intro @td_26 @zv_26))))))))))))))))))))))))))))
def tfA1 := And.intro @tf_26 (And.intro @td_27 (And.intro @zv_27 (And.intro @tel_27 (And.intro @Tryd.underlying27 (And.intro @td_28 (And.intro @zv_28 (And.intro @tel_28 (And.intro @Tryd.underlying28 (And.intro @td_30 (And.intro @zv_30 (And.intro @tf_30 (And.intro @td_31 (And.intro @zv_31 (And.intro @tel_31 (And.intro @Tryd.underlying31 (And.intro @td_33 (And.intro @zv_33 (And.intro @tf_33 (And.intro @td_35 (And.intro @zv_35 (And.intro @tf_35 (And.intro @fl_35 (And.intro @nk_36 (And.intro @nk_37 (And.intro @td_37 (And.intro @zv_37 (And.intro @td_44 (And.intro @zv_44 @tel_44))))))))))))))))))))))))))))
def tfA2 := And.intro @Tryd.underlying44 (And.intro @td_48 (And.intro @zv_48 (And.intro @tel_48 (And.intro @Tryd.underlying48 (And.intro @nk_50 (And.intro @td_50 (And.intro @zv_50 (And.intro @Tryd.underlying50 (And.intro @nk_51 (And.intro @td_51 (And.intro @zv_51 (And.intro @Tryd.underlying51 (And.intro @td_53 (And.intro @zv_53 (And.intro @tf_53 (And.intro @nk_55 (And.intro @td_61 (And.intro @zv_61 (And.intro @tel_61 (And.intro @Tryd.underlying61 (And.intro @td_63 (And.intro @zv_63 (And.intro @tf_63 (And.intro @td_65 (And.intro @zv_65 (And.intro @tf_65 (And.intro @td_67 (And.intro @zv_67 @tel_67))))))))))))))))))))))))))))
def tfA3 := And.intro @Tryd.underlying67 (And.intro @td_69 (And.intro @zv_69 (And.intro @tf_69 (And.intro @nk_72 (And.intro @td_72 (And.intro @zv_72 (And.intro @Tryd.underlying72 (And.intro @td_74 (And.intro @zv_74 (And.intro @tf_74 (And.intro @nk_76 (And.intro @td_76 (And.intro @zv_76 (And.intro @Tryd.underlying76 (And.intro @td_78 (And.intro @zv_78 (And.intro @tf_78 (And.intro @td_81 (And.intro @zv_81 (And.intro @tf_81 (And.intro @td_82 (And.intro @zv_82 (And.intro @tel_82 (And.intro @Tryd.underlying82 (And.intro @nk_90 (And.intro @nk_98 (And.intro @nk_100 (And.intro @td_103 @zv_103))))))))))))))))))))))))))))
def tfA4 := And.intro @tel_103 (And.intro @Tryd.underlying103 (And.intro @td_106 (And.intro @zv_106 (And.intro @tf_106 (And.intro @fl_106 (And.intro @nk_107 (And.intro @td_108 (And.intro @zv_108 (And.intro @tel_108 (And.intro @Tryd.underlying108 (And.intro @td_110 (And.intro @zv_110 (And.intro @tf_110 (And.intro @td_116 (And.intro @zv_116 (And.intro @tf_116 (And.intro @nk_124 (And.intro @nk_125 (And.intro @td_140 (And.intro @zv_140 (And.intro @tel_140 (And.intro @Tryd.underlying140 (And.intro @td_142 (And.intro @zv_142 (And.intro @tf_142 (And.intro @td_144 (And.intro @zv_144 (And.intro @tel_144 @Tryd.underlying144))))))))))))))))))))))))))))
def tfA5 := And.intro @nk_153 (And.intro @nk_154 (And.intro @nk_157 (And.intro @nk_159 (And.intro @nk_164 (And.intro @nk_168 (And.intro @nk_170 (And.intro @td_172 (And.intro @zv_172 (And.intro @tf_172 (And.intro @nk_193 @nk_202))))))))))
def tfA := And.intro @tfA0 (And.intro @tfA1 (And.intro @tfA2 (And.intro @tfA3 (And.intro @tfA4 @tfA5))))
end Go.Proofs.YticdboelpgalpaaDoor
