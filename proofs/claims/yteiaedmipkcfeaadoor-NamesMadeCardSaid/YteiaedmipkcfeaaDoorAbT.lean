/-
 Closed facts on the types of this seat.
-/
-- halved
import Derived.Test.YteiaedmipkcfeaaDoorRows
import Derived.Test.YteiaedmipkcfeaaDoorAbFn
import Derived.KernelRfl
namespace Go.Proofs.YteiaedmipkcfeaaDoor
open Go Go.RowKit
theorem ok_mix : Tryd.prog.follows .mixedOrders = true := by kernel_rfl
theorem td_3 : tdat Tryd.prog 3 = some ⟨false, 1, 8, .int .i64 0⟩ := by kernel_rfl
theorem zv_3 : ofV (.int .i64 0) = .v (.int .i64 0) := by kernel_rfl
theorem td_4 : tdat Tryd.prog 4 = some ⟨false, 1, 1, .bool false⟩ := by kernel_rfl
theorem zv_4 : ofV (.bool false) = .v (.bool false) := by kernel_rfl
theorem td_5 : tdat Tryd.prog 5 = some ⟨false, 1, 1, .int .u8 0⟩ := by kernel_rfl
theorem zv_5 : ofV (.int .u8 0) = .v (.int .u8 0) := by kernel_rfl
theorem td_9 : tdat Tryd.prog 9 = some ⟨false, 1, 16, .string ⟨#[]⟩⟩ := by kernel_rfl
theorem zv_9 : ofV (.string ⟨#[]⟩) = .v (.string ⟨#[]⟩) := by kernel_rfl
theorem nk_15 : nkT Tryd.prog 15 = some .nkp := by kernel_rfl
theorem nk_16 : nkT Tryd.prog 16 = some .nkp := by kernel_rfl
theorem nk_17 : nkT Tryd.prog 17 = some .nkp := by kernel_rfl
theorem nk_20 : nkT Tryd.prog 20 = some .nki := by kernel_rfl
theorem td_20 : tdat Tryd.prog 20 = some ⟨false, 1, 16, .nilIface⟩ := by kernel_rfl
theorem zv_20 : ofV (.nilIface) = .v .nilIface := by kernel_rfl
theorem td_21 : tdat Tryd.prog 21 = some ⟨false, 1, 4, .int .i32 0⟩ := by kernel_rfl
theorem zv_21 : ofV (.int .i32 0) = .v (.int .i32 0) := by kernel_rfl
theorem td_22 : tdat Tryd.prog 22 = some ⟨false, 1, 24, .slice none 0 0⟩ := by kernel_rfl
theorem zv_22 : ofV (.slice none 0 0) = .sl .full [] := by kernel_rfl
theorem tel_22 : tel Tryd.prog 22 = some 5 := by kernel_rfl
theorem nk_24 : nkT Tryd.prog 24 = some .nki := by kernel_rfl
theorem nk_25 : nkT Tryd.prog 25 = some .nki := by kernel_rfl
theorem td_25 : tdat Tryd.prog 25 = some ⟨false, 1, 16, .nilIface⟩ := by kernel_rfl
theorem zv_25 : ofV (.nilIface) = .v .nilIface := by kernel_rfl
theorem td_27 : tdat Tryd.prog 27 = some ⟨false, 1, 24, .slice none 0 0⟩ := by kernel_rfl
theorem zv_27 : ofV (.slice none 0 0) = .sl .full [] := by kernel_rfl
theorem tel_27 : tel Tryd.prog 27 = some 37 := by kernel_rfl
theorem td_28 : tdat Tryd.prog 28 = some ⟨false, 1, 24, .slice none 0 0⟩ := by kernel_rfl
theorem zv_28 : ofV (.slice none 0 0) = .sl .full [] := by kernel_rfl
theorem tel_28 : tel Tryd.prog 28 = some 53 := by kernel_rfl
theorem td_30 : tdat Tryd.prog 30 = some ⟨true, 2, 48, .agg #[.slice none 0 0, .slice none 0 0]⟩ := by kernel_rfl
theorem zv_30 : ofV (.agg #[.slice none 0 0, .slice none 0 0]) = .ag [.sl .full [], .sl .full []] := by kernel_rfl
theorem tf_30 : tflds Tryd.prog 30 = some [(0, 1, false), (1, 1, false)] := by kernel_rfl
theorem td_33 : tdat Tryd.prog 33 = some ⟨false, 1, 24, .slice none 0 0⟩ := by kernel_rfl
theorem zv_33 : ofV (.slice none 0 0) = .sl .full [] := by kernel_rfl
theorem tel_33 : tel Tryd.prog 33 = some 9 := by kernel_rfl
theorem td_35 : tdat Tryd.prog 35 = some ⟨true, 2, 16, .agg #[.int .i64 0, .int .i64 0]⟩ := by kernel_rfl
theorem zv_35 : ofV (.agg #[.int .i64 0, .int .i64 0]) = .ag [.v (.int .i64 0), .v (.int .i64 0)] := by kernel_rfl
theorem tf_35 : tflds Tryd.prog 35 = some [(0, 1, false), (1, 1, false)] := by kernel_rfl
theorem fl_35 : flat1 Tryd.prog 35 = some [.ski, .ski] := by kernel_rfl
theorem td_37 : tdat Tryd.prog 37 = some ⟨true, 4, 56, .agg #[.string ⟨#[]⟩, .slice none 0 0, .int .i64 0, .int .i64 0]⟩ := by kernel_rfl
theorem zv_37 : ofV (.agg #[.string ⟨#[]⟩, .slice none 0 0, .int .i64 0, .int .i64 0]) = .ag [.v (.string ⟨#[]⟩), .sl .full [], .v (.int .i64 0), .v (.int .i64 0)] := by kernel_rfl
theorem tf_37 : tflds Tryd.prog 37 = some [(0, 1, false), (1, 1, false), (2, 2, true)] := by kernel_rfl
theorem td_48 : tdat Tryd.prog 48 = some ⟨false, 1, 24, .slice none 0 0⟩ := by kernel_rfl
theorem zv_48 : ofV (.slice none 0 0) = .sl .full [] := by kernel_rfl
theorem tel_48 : tel Tryd.prog 48 = some 67 := by kernel_rfl
theorem td_49 : tdat Tryd.prog 49 = some ⟨false, 1, 24, .slice none 0 0⟩ := by kernel_rfl
theorem zv_49 : ofV (.slice none 0 0) = .sl .full [] := by kernel_rfl
theorem tel_49 : tel Tryd.prog 49 = some 62 := by kernel_rfl
theorem td_51 : tdat Tryd.prog 51 = some ⟨true, 2, 48, .agg #[.slice none 0 0, .slice none 0 0]⟩ := by kernel_rfl
theorem zv_51 : ofV (.agg #[.slice none 0 0, .slice none 0 0]) = .ag [.sl .full [], .sl .full []] := by kernel_rfl
theorem tf_51 : tflds Tryd.prog 51 = some [(0, 1, false), (1, 1, false)] := by kernel_rfl
theorem td_53 : tdat Tryd.prog 53 = some ⟨true, 7, 128, .agg #[.string ⟨#[]⟩, .slice none 0 0, .slice none 0 0, .slice none 0 0, .slice none 0 0, .int .i64 0, .int .i64 0]⟩ := by kernel_rfl
theorem zv_53 : ofV (.agg #[.string ⟨#[]⟩, .slice none 0 0, .slice none 0 0, .slice none 0 0, .slice none 0 0, .int .i64 0, .int .i64 0]) = .ag [.v (.string ⟨#[]⟩), .sl .full [], .sl .full [], .sl .full [], .sl .full [], .v (.int .i64 0), .v (.int .i64 0)] := by kernel_rfl
theorem tf_53 : tflds Tryd.prog 53 = some [(0, 1, false), (1, 1, false), (2, 1, false), (3, 2, true), (5, 2, true)] := by kernel_rfl
theorem td_57 : tdat Tryd.prog 57 = some ⟨false, 1, 24, .slice none 0 0⟩ := by kernel_rfl
theorem zv_57 : ofV (.slice none 0 0) = .sl .full [] := by kernel_rfl
theorem tel_57 : tel Tryd.prog 57 = some 59 := by kernel_rfl
theorem td_59 : tdat Tryd.prog 59 = some ⟨true, 8, 88, .agg #[.int .u8 0, .int .u8 0, .int .i32 0, .string ⟨#[]⟩, .slice none 0 0, .slice none 0 0, .int .i64 0, .int .i64 0]⟩ := by kernel_rfl
theorem zv_59 : ofV (.agg #[.int .u8 0, .int .u8 0, .int .i32 0, .string ⟨#[]⟩, .slice none 0 0, .slice none 0 0, .int .i64 0, .int .i64 0]) = .ag [.v (.int .u8 0), .v (.int .u8 0), .v (.int .i32 0), .v (.string ⟨#[]⟩), .sl .full [], .sl .full [], .v (.int .i64 0), .v (.int .i64 0)] := by kernel_rfl
theorem tf_59 : tflds Tryd.prog 59 = some [(0, 1, false), (1, 1, false), (2, 1, false), (3, 1, false), (4, 1, false), (5, 1, false), (6, 2, true)] := by kernel_rfl
theorem td_60 : tdat Tryd.prog 60 = some ⟨false, 1, 24, .slice none 0 0⟩ := by kernel_rfl
theorem zv_60 : ofV (.slice none 0 0) = .sl .full [] := by kernel_rfl
theorem tel_60 : tel Tryd.prog 60 = some 122 := by kernel_rfl
theorem td_62 : tdat Tryd.prog 62 = some ⟨true, 16, 208, .agg #[.int .u8 0, .slice none 0 0, .string ⟨#[]⟩, .slice none 0 0, .bool false, .int .u8 0, .int .u8 0, .int .i32 0, .string ⟨#[]⟩, .slice none 0 0, .slice none 0 0, .int .i64 0, .int .i64 0, .slice none 0 0, .int .i64 0, .int .i64 0]⟩ := by kernel_rfl
theorem zv_62 : ofV (.agg #[.int .u8 0, .slice none 0 0, .string ⟨#[]⟩, .slice none 0 0, .bool false, .int .u8 0, .int .u8 0, .int .i32 0, .string ⟨#[]⟩, .slice none 0 0, .slice none 0 0, .int .i64 0, .int .i64 0, .slice none 0 0, .int .i64 0, .int .i64 0]) = .ag [.v (.int .u8 0), .sl .full [], .v (.string ⟨#[]⟩), .sl .full [], .v (.bool false), .v (.int .u8 0), .v (.int .u8 0), .v (.int .i32 0), .v (.string ⟨#[]⟩), .sl .full [], .sl .full [], .v (.int .i64 0), .v (.int .i64 0), .sl .full [], .v (.int .i64 0), .v (.int .i64 0)] := by kernel_rfl
theorem tf_62 : tflds Tryd.prog 62 = some [(0, 1, false), (1, 1, false), (2, 1, false), (3, 1, false), (4, 1, false), (5, 8, true), (13, 1, false), (14, 2, true)] := by kernel_rfl
theorem td_64 : tdat Tryd.prog 64 = some ⟨true, 2, 24, .agg #[.int .u8 0, .string ⟨#[]⟩]⟩ := by kernel_rfl
theorem zv_64 : ofV (.agg #[.int .u8 0, .string ⟨#[]⟩]) = .ag [.v (.int .u8 0), .v (.string ⟨#[]⟩)] := by kernel_rfl
theorem tf_64 : tflds Tryd.prog 64 = some [(0, 1, false), (1, 1, false)] := by kernel_rfl
theorem fl_64 : flat1 Tryd.prog 64 = some [.ski, .sks] := by kernel_rfl
theorem td_65 : tdat Tryd.prog 65 = some ⟨false, 1, 24, .slice none 0 0⟩ := by kernel_rfl
theorem zv_65 : ofV (.slice none 0 0) = .sl .full [] := by kernel_rfl
theorem tel_65 : tel Tryd.prog 65 = some 151 := by kernel_rfl
theorem td_67 : tdat Tryd.prog 67 = some ⟨true, 15, 176, .agg #[.string ⟨#[]⟩, .int .u8 0, .string ⟨#[]⟩, .slice none 0 0, .bool false, .int .u8 0, .int .u8 0, .int .i32 0, .string ⟨#[]⟩, .slice none 0 0, .slice none 0 0, .int .i64 0, .int .i64 0, .int .i64 0, .int .i64 0]⟩ := by kernel_rfl
theorem zv_67 : ofV (.agg #[.string ⟨#[]⟩, .int .u8 0, .string ⟨#[]⟩, .slice none 0 0, .bool false, .int .u8 0, .int .u8 0, .int .i32 0, .string ⟨#[]⟩, .slice none 0 0, .slice none 0 0, .int .i64 0, .int .i64 0, .int .i64 0, .int .i64 0]) = .ag [.v (.string ⟨#[]⟩), .v (.int .u8 0), .v (.string ⟨#[]⟩), .sl .full [], .v (.bool false), .v (.int .u8 0), .v (.int .u8 0), .v (.int .i32 0), .v (.string ⟨#[]⟩), .sl .full [], .sl .full [], .v (.int .i64 0), .v (.int .i64 0), .v (.int .i64 0), .v (.int .i64 0)] := by kernel_rfl
theorem tf_67 : tflds Tryd.prog 67 = some [(0, 1, false), (1, 2, true), (3, 1, false), (4, 1, false), (5, 8, true), (13, 2, true)] := by kernel_rfl
theorem nk_70 : nkT Tryd.prog 70 = some .nkp := by kernel_rfl
theorem td_70 : tdat Tryd.prog 70 = some ⟨false, 1, 8, .pointer none⟩ := by kernel_rfl
theorem zv_70 : ofV (.pointer none) = .v (.pointer none) := by kernel_rfl
theorem td_72 : tdat Tryd.prog 72 = some ⟨true, 2, 48, .agg #[.slice none 0 0, .slice none 0 0]⟩ := by kernel_rfl
theorem zv_72 : ofV (.agg #[.slice none 0 0, .slice none 0 0]) = .ag [.sl .full [], .sl .full []] := by kernel_rfl
theorem tf_72 : tflds Tryd.prog 72 = some [(0, 2, true)] := by kernel_rfl
theorem nk_76 : nkT Tryd.prog 76 = some .nkp := by kernel_rfl
theorem td_76 : tdat Tryd.prog 76 = some ⟨false, 1, 8, .pointer none⟩ := by kernel_rfl
theorem zv_76 : ofV (.pointer none) = .v (.pointer none) := by kernel_rfl
theorem td_78 : tdat Tryd.prog 78 = some ⟨true, 2, 32, .agg #[.slice none 0 0, .int .i64 0]⟩ := by kernel_rfl
theorem zv_78 : ofV (.agg #[.slice none 0 0, .int .i64 0]) = .ag [.sl .full [], .v (.int .i64 0)] := by kernel_rfl
theorem tf_78 : tflds Tryd.prog 78 = some [(0, 1, false), (1, 1, false)] := by kernel_rfl
theorem nk_80 : nkT Tryd.prog 80 = some .nkp := by kernel_rfl
theorem td_80 : tdat Tryd.prog 80 = some ⟨false, 1, 8, .pointer none⟩ := by kernel_rfl
theorem zv_80 : ofV (.pointer none) = .v (.pointer none) := by kernel_rfl
theorem td_82 : tdat Tryd.prog 82 = some ⟨true, 5, 40, .agg #[.pointer none, .int .i64 0, .int .i64 0, .int .i64 0, .bool false]⟩ := by kernel_rfl
theorem zv_82 : ofV (.agg #[.pointer none, .int .i64 0, .int .i64 0, .int .i64 0, .bool false]) = .ag [.v (.pointer none), .v (.int .i64 0), .v (.int .i64 0), .v (.int .i64 0), .v (.bool false)] := by kernel_rfl
theorem tf_82 : tflds Tryd.prog 82 = some [(0, 1, false), (1, 1, false), (2, 1, false), (3, 1, false), (4, 1, false)] := by kernel_rfl
theorem nk_84 : nkT Tryd.prog 84 = some .nkp := by kernel_rfl
theorem nk_90 : nkT Tryd.prog 90 = some .nkp := by kernel_rfl
theorem nk_94 : nkT Tryd.prog 94 = some .nkp := by kernel_rfl
theorem nk_96 : nkT Tryd.prog 96 = some .nkp := by kernel_rfl
theorem nk_105 : nkT Tryd.prog 105 = some .nkf := by kernel_rfl
theorem td_108 : tdat Tryd.prog 108 = some ⟨true, 2, 48, .agg #[.slice none 0 0, .slice none 0 0]⟩ := by kernel_rfl
theorem zv_108 : ofV (.agg #[.slice none 0 0, .slice none 0 0]) = .ag [.sl .full [], .sl .full []] := by kernel_rfl
theorem tf_108 : tflds Tryd.prog 108 = some [(0, 1, false), (1, 1, false)] := by kernel_rfl
theorem td_117 : tdat Tryd.prog 117 = some ⟨true, 3, 72, .agg #[.slice none 0 0, .slice none 0 0, .slice none 0 0]⟩ := by kernel_rfl
theorem zv_117 : ofV (.agg #[.slice none 0 0, .slice none 0 0, .slice none 0 0]) = .ag [.sl .full [], .sl .full [], .sl .full []] := by kernel_rfl
theorem tf_117 : tflds Tryd.prog 117 = some [(0, 1, false), (1, 1, false), (2, 1, false)] := by kernel_rfl
theorem td_120 : tdat Tryd.prog 120 = some ⟨false, 1, 24, .slice none 0 0⟩ := by kernel_rfl
theorem zv_120 : ofV (.slice none 0 0) = .sl .full [] := by kernel_rfl
theorem tel_120 : tel Tryd.prog 120 = some 160 := by kernel_rfl
theorem td_122 : tdat Tryd.prog 122 = some ⟨true, 7, 128, .agg #[.string ⟨#[]⟩, .slice none 0 0, .slice none 0 0, .slice none 0 0, .slice none 0 0, .int .i64 0, .int .i64 0]⟩ := by kernel_rfl
theorem zv_122 : ofV (.agg #[.string ⟨#[]⟩, .slice none 0 0, .slice none 0 0, .slice none 0 0, .slice none 0 0, .int .i64 0, .int .i64 0]) = .ag [.v (.string ⟨#[]⟩), .sl .full [], .sl .full [], .sl .full [], .sl .full [], .v (.int .i64 0), .v (.int .i64 0)] := by kernel_rfl
theorem tf_122 : tflds Tryd.prog 122 = some [(0, 1, false), (1, 2, true), (3, 1, false), (4, 1, false), (5, 2, true)] := by kernel_rfl
theorem nk_126 : nkT Tryd.prog 126 = some .nki := by kernel_rfl
theorem nk_127 : nkT Tryd.prog 127 = some .nki := by kernel_rfl
theorem nk_143 : nkT Tryd.prog 143 = some .nkf := by kernel_rfl
theorem td_144 : tdat Tryd.prog 144 = some ⟨false, 1, 24, .slice none 0 0⟩ := by kernel_rfl
theorem zv_144 : ofV (.slice none 0 0) = .sl .full [] := by kernel_rfl
theorem tel_144 : tel Tryd.prog 144 = some 48 := by kernel_rfl
theorem nk_148 : nkT Tryd.prog 148 = some .nkf := by kernel_rfl
theorem td_151 : tdat Tryd.prog 151 = some ⟨true, 2, 32, .agg #[.string ⟨#[]⟩, .string ⟨#[]⟩]⟩ := by kernel_rfl
theorem zv_151 : ofV (.agg #[.string ⟨#[]⟩, .string ⟨#[]⟩]) = .ag [.v (.string ⟨#[]⟩), .v (.string ⟨#[]⟩)] := by kernel_rfl
theorem tf_151 : tflds Tryd.prog 151 = some [(0, 1, false), (1, 1, false)] := by kernel_rfl
theorem fl_151 : flat1 Tryd.prog 151 = some [.sks, .sks] := by kernel_rfl
theorem td_153 : tdat Tryd.prog 153 = some ⟨false, 1, 24, .slice none 0 0⟩ := by kernel_rfl
theorem zv_153 : ofV (.slice none 0 0) = .sl .full [] := by kernel_rfl
theorem tel_153 : tel Tryd.prog 153 = some 21 := by kernel_rfl
theorem td_160 : tdat Tryd.prog 160 = some ⟨true, 12, 128, .agg #[.int .u8 0, .int .u8 0, .int .i32 0, .string ⟨#[]⟩, .slice none 0 0, .slice none 0 0, .int .i64 0, .int .i64 0, .string ⟨#[]⟩, .bool false, .int .i64 0, .int .i64 0]⟩ := by kernel_rfl
theorem zv_160 : ofV (.agg #[.int .u8 0, .int .u8 0, .int .i32 0, .string ⟨#[]⟩, .slice none 0 0, .slice none 0 0, .int .i64 0, .int .i64 0, .string ⟨#[]⟩, .bool false, .int .i64 0, .int .i64 0]) = .ag [.v (.int .u8 0), .v (.int .u8 0), .v (.int .i32 0), .v (.string ⟨#[]⟩), .sl .full [], .sl .full [], .v (.int .i64 0), .v (.int .i64 0), .v (.string ⟨#[]⟩), .v (.bool false), .v (.int .i64 0), .v (.int .i64 0)] := by kernel_rfl
theorem tf_160 : tflds Tryd.prog 160 = some [(0, 8, true), (8, 1, false), (9, 1, false), (10, 2, true)] := by kernel_rfl
theorem nk_166 : nkT Tryd.prog 166 = some .nkp := by kernel_rfl
theorem nk_167 : nkT Tryd.prog 167 = some .nki := by kernel_rfl
theorem nk_170 : nkT Tryd.prog 170 = some .nki := by kernel_rfl
theorem nk_172 : nkT Tryd.prog 172 = some .nki := by kernel_rfl
theorem nk_177 : nkT Tryd.prog 177 = some .nki := by kernel_rfl
theorem nk_181 : nkT Tryd.prog 181 = some .nkf := by kernel_rfl
theorem td_186 : tdat Tryd.prog 186 = some ⟨false, 1, 24, .slice none 0 0⟩ := by kernel_rfl
theorem zv_186 : ofV (.slice none 0 0) = .sl .full [] := by kernel_rfl
theorem tel_186 : tel Tryd.prog 186 = some 33 := by kernel_rfl
theorem nk_188 : nkT Tryd.prog 188 = some .nkf := by kernel_rfl
theorem nk_207 : nkT Tryd.prog 207 = some .nkp := by kernel_rfl
theorem nk_216 : nkT Tryd.prog 216 = some .nkp := by kernel_rfl
theorem nk_225 : nkT Tryd.prog 225 = some .nkp := by kernel_rfl
set_option linter.defProp false
def tfA0 := And.intro @td_3 (And.intro @zv_3 (And.intro @Tryd.underlying3 (And.intro @td_4 (And.intro @zv_4 (And.intro @Tryd.underlying4 (And.intro @td_5 (And.intro @zv_5 (And.intro @Tryd.underlying5 (And.intro @td_9 (And.intro @zv_9 (And.intro @Tryd.underlying9 (And.intro @nk_15 (And.intro @nk_16 (And.intro @nk_17 (And.intro @nk_20 (And.intro @td_20 (And.intro @zv_20 (And.intro @td_21 (And.intro @zv_21 (And.intro @Tryd.underlying21 (And.intro @td_22 (And.intro @zv_22 (And.intro @tel_22 (And.intro @Tryd.underlying22 (And.intro @nk_24 (And.intro @nk_25 (And.intro @td_25 (And.intro @zv_25 @td_27))))))))))))))))))))))))))))
def tfA1 := And.intro @zv_27 (And.intro @tel_27 (And.intro @Tryd.underlying27 (And.intro @td_28 (And.intro @zv_28 (And.intro @tel_28 (And.intro @Tryd.underlying28 (And.intro @td_30 (And.intro @zv_30 (And.intro @tf_30 (And.intro @td_33 (And.intro @zv_33 (And.intro @tel_33 (And.intro @Tryd.underlying33 (And.intro @td_35 (And.intro @zv_35 (And.intro @tf_35 (And.intro @fl_35 (And.intro @td_37 (And.intro @zv_37 (And.intro @tf_37 (And.intro @td_48 (And.intro @zv_48 (And.intro @tel_48 (And.intro @Tryd.underlying48 (And.intro @td_49 (And.intro @zv_49 (And.intro @tel_49 (And.intro @Tryd.underlying49 @td_51))))))))))))))))))))))))))))
def tfA2 := And.intro @zv_51 (And.intro @tf_51 (And.intro @td_53 (And.intro @zv_53 (And.intro @tf_53 (And.intro @td_57 (And.intro @zv_57 (And.intro @tel_57 (And.intro @Tryd.underlying57 (And.intro @td_59 (And.intro @zv_59 (And.intro @tf_59 (And.intro @td_60 (And.intro @zv_60 (And.intro @tel_60 (And.intro @Tryd.underlying60 (And.intro @td_62 (And.intro @zv_62 (And.intro @tf_62 (And.intro @td_64 (And.intro @zv_64 (And.intro @tf_64 (And.intro @fl_64 (And.intro @td_65 (And.intro @zv_65 (And.intro @tel_65 (And.intro @Tryd.underlying65 (And.intro @td_67 (And.intro @zv_67 @tf_67))))))))))))))))))))))))))))
def tfA3 := And.intro @nk_70 (And.intro @td_70 (And.intro @zv_70 (And.intro @Tryd.underlying70 (And.intro @td_72 (And.intro @zv_72 (And.intro @tf_72 (And.intro @nk_76 (And.intro @td_76 (And.intro @zv_76 (And.intro @Tryd.underlying76 (And.intro @td_78 (And.intro @zv_78 (And.intro @tf_78 (And.intro @nk_80 (And.intro @td_80 (And.intro @zv_80 (And.intro @Tryd.underlying80 (And.intro @td_82 (And.intro @zv_82 (And.intro @tf_82 (And.intro @nk_84 (And.intro @nk_90 (And.intro @nk_94 (And.intro @nk_96 (And.intro @nk_105 (And.intro @td_108 (And.intro @zv_108 (And.intro @tf_108 @td_117))))))))))))))))))))))))))))
def tfA4 := And.intro @zv_117 (And.intro @tf_117 (And.intro @td_120 (And.intro @zv_120 (And.intro @tel_120 (And.intro @Tryd.underlying120 (And.intro @td_122 (And.intro @zv_122 (And.intro @tf_122 (And.intro @nk_126 (And.intro @nk_127 (And.intro @nk_143 (And.intro @td_144 (And.intro @zv_144 (And.intro @tel_144 (And.intro @Tryd.underlying144 (And.intro @nk_148 (And.intro @td_151 (And.intro @zv_151 (And.intro @tf_151 (And.intro @fl_151 (And.intro @td_153 (And.intro @zv_153 (And.intro @tel_153 (And.intro @Tryd.underlying153 (And.intro @td_160 (And.intro @zv_160 (And.intro @tf_160 (And.intro @nk_166 @nk_167))))))))))))))))))))))))))))
def tfA5 := And.intro @nk_170 (And.intro @nk_172 (And.intro @nk_177 (And.intro @nk_181 (And.intro @td_186 (And.intro @zv_186 (And.intro @tel_186 (And.intro @Tryd.underlying186 (And.intro @nk_188 (And.intro @nk_207 (And.intro @nk_216 @nk_225))))))))))
def tfA := And.intro @tfA0 (And.intro @tfA1 (And.intro @tfA2 (And.intro @tfA3 (And.intro @tfA4 @tfA5))))
end Go.Proofs.YteiaedmipkcfeaaDoor
