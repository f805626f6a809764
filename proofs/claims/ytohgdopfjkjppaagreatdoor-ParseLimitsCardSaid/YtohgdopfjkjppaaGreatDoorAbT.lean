/-
 Closed facts on the types of this seat.
-/
-- halved
import Derived.Test.YtohgdopfjkjppaaGreatDoorRows
import Derived.Test.YtohgdopfjkjppaaGreatDoorWpA
import Derived.KernelRfl
namespace Go.Proofs.YtohgdopfjkjppaaGreatDoor
open Go Go.RowKit
theorem ok_mix : Tryz.prog.follows .mixedOrders = true := by kernel_rfl
theorem td_2 : tdat Tryz.prog 2 = some ⟨false, 1, 8, .int .i64 0⟩ := by kernel_rfl
theorem zv_2 : ofV (.int .i64 0) = .v (.int .i64 0) := by kernel_rfl
theorem td_3 : tdat Tryz.prog 3 = some ⟨false, 1, 8, .int .i64 0⟩ := by kernel_rfl
theorem zv_3 : ofV (.int .i64 0) = .v (.int .i64 0) := by kernel_rfl
theorem td_4 : tdat Tryz.prog 4 = some ⟨false, 1, 1, .bool false⟩ := by kernel_rfl
theorem zv_4 : ofV (.bool false) = .v (.bool false) := by kernel_rfl
theorem td_5 : tdat Tryz.prog 5 = some ⟨false, 1, 1, .int .u8 0⟩ := by kernel_rfl
theorem zv_5 : ofV (.int .u8 0) = .v (.int .u8 0) := by kernel_rfl
theorem td_9 : tdat Tryz.prog 9 = some ⟨false, 1, 16, .string ⟨#[]⟩⟩ := by kernel_rfl
theorem zv_9 : ofV (.string ⟨#[]⟩) = .v (.string ⟨#[]⟩) := by kernel_rfl
theorem nk_15 : nkT Tryz.prog 15 = some .nkp := by kernel_rfl
theorem nk_16 : nkT Tryz.prog 16 = some .nkp := by kernel_rfl
theorem nk_17 : nkT Tryz.prog 17 = some .nkp := by kernel_rfl
theorem nk_20 : nkT Tryz.prog 20 = some .nki := by kernel_rfl
theorem td_20 : tdat Tryz.prog 20 = some ⟨false, 1, 16, .nilIface⟩ := by kernel_rfl
theorem zv_20 : ofV (.nilIface) = .v .nilIface := by kernel_rfl
theorem td_21 : tdat Tryz.prog 21 = some ⟨false, 1, 4, .int .i32 0⟩ := by kernel_rfl
theorem zv_21 : ofV (.int .i32 0) = .v (.int .i32 0) := by kernel_rfl
theorem td_22 : tdat Tryz.prog 22 = some ⟨false, 1, 24, .slice none 0 0⟩ := by kernel_rfl
theorem zv_22 : ofV (.slice none 0 0) = .sl .full [] := by kernel_rfl
theorem tel_22 : tel Tryz.prog 22 = some 5 := by kernel_rfl
theorem td_24 : tdat Tryz.prog 24 = some ⟨false, 1, 24, .slice none 0 0⟩ := by kernel_rfl
theorem zv_24 : ofV (.slice none 0 0) = .sl .full [] := by kernel_rfl
theorem tel_24 : tel Tryz.prog 24 = some 9 := by kernel_rfl
theorem td_25 : tdat Tryz.prog 25 = some ⟨false, 1, 24, .slice none 0 0⟩ := by kernel_rfl
theorem zv_25 : ofV (.slice none 0 0) = .sl .full [] := by kernel_rfl
theorem tel_25 : tel Tryz.prog 25 = some 29 := by kernel_rfl
theorem td_27 : tdat Tryz.prog 27 = some ⟨true, 2, 16, .agg #[.int .i64 0, .int .i64 0]⟩ := by kernel_rfl
theorem zv_27 : ofV (.agg #[.int .i64 0, .int .i64 0]) = .ag [.v (.int .i64 0), .v (.int .i64 0)] := by kernel_rfl
theorem tf_27 : tflds Tryz.prog 27 = some [(0, 1, false), (1, 1, false)] := by kernel_rfl
theorem fl_27 : flat1 Tryz.prog 27 = some [.ski, .ski] := by kernel_rfl
theorem td_29 : tdat Tryz.prog 29 = some ⟨true, 8, 88, .agg #[.int .u8 0, .int .u8 0, .int .i32 0, .string ⟨#[]⟩, .slice none 0 0, .slice none 0 0, .int .i64 0, .int .i64 0]⟩ := by kernel_rfl
theorem zv_29 : ofV (.agg #[.int .u8 0, .int .u8 0, .int .i32 0, .string ⟨#[]⟩, .slice none 0 0, .slice none 0 0, .int .i64 0, .int .i64 0]) = .ag [.v (.int .u8 0), .v (.int .u8 0), .v (.int .i32 0), .v (.string ⟨#[]⟩), .sl .full [], .sl .full [], .v (.int .i64 0), .v (.int .i64 0)] := by kernel_rfl
theorem tf_29 : tflds Tryz.prog 29 = some [(0, 1, false), (1, 1, false), (2, 1, false), (3, 1, false), (4, 1, false), (5, 1, false), (6, 2, true)] := by kernel_rfl
theorem nk_30 : nkT Tryz.prog 30 = some .nki := by kernel_rfl
theorem nk_31 : nkT Tryz.prog 31 = some .nki := by kernel_rfl
theorem td_31 : tdat Tryz.prog 31 = some ⟨false, 1, 16, .nilIface⟩ := by kernel_rfl
theorem zv_31 : ofV (.nilIface) = .v .nilIface := by kernel_rfl
theorem td_34 : tdat Tryz.prog 34 = some ⟨false, 1, 8, .int .i64 0⟩ := by kernel_rfl
theorem zv_34 : ofV (.int .i64 0) = .v (.int .i64 0) := by kernel_rfl
theorem nk_45 : nkT Tryz.prog 45 = some .nkp := by kernel_rfl
theorem td_45 : tdat Tryz.prog 45 = some ⟨false, 1, 8, .pointer none⟩ := by kernel_rfl
theorem zv_45 : ofV (.pointer none) = .v (.pointer none) := by kernel_rfl
theorem nk_47 : nkT Tryz.prog 47 = some .nkf := by kernel_rfl
theorem td_48 : tdat Tryz.prog 48 = some ⟨false, 1, 24, .slice none 0 0⟩ := by kernel_rfl
theorem zv_48 : ofV (.slice none 0 0) = .sl .full [] := by kernel_rfl
theorem tel_48 : tel Tryz.prog 48 = some 55 := by kernel_rfl
theorem nk_51 : nkT Tryz.prog 51 = some .nkp := by kernel_rfl
theorem td_51 : tdat Tryz.prog 51 = some ⟨false, 1, 8, .pointer none⟩ := by kernel_rfl
theorem zv_51 : ofV (.pointer none) = .v (.pointer none) := by kernel_rfl
theorem td_53 : tdat Tryz.prog 53 = some ⟨true, 6, 64, .agg #[.slice none 0 0, .int .i64 0, .int .i64 0, .int .i64 0, .int .i64 0, .int .i64 0]⟩ := by kernel_rfl
theorem zv_53 : ofV (.agg #[.slice none 0 0, .int .i64 0, .int .i64 0, .int .i64 0, .int .i64 0, .int .i64 0]) = .ag [.sl .full [], .v (.int .i64 0), .v (.int .i64 0), .v (.int .i64 0), .v (.int .i64 0), .v (.int .i64 0)] := by kernel_rfl
theorem tf_53 : tflds Tryz.prog 53 = some [(0, 1, false), (1, 1, false), (2, 1, false), (3, 1, false), (4, 2, true)] := by kernel_rfl
theorem td_55 : tdat Tryz.prog 55 = some ⟨true, 5, 48, .agg #[.int .u8 0, .string ⟨#[]⟩, .int .i32 0, .int .i64 0, .int .i64 0]⟩ := by kernel_rfl
theorem zv_55 : ofV (.agg #[.int .u8 0, .string ⟨#[]⟩, .int .i32 0, .int .i64 0, .int .i64 0]) = .ag [.v (.int .u8 0), .v (.string ⟨#[]⟩), .v (.int .i32 0), .v (.int .i64 0), .v (.int .i64 0)] := by kernel_rfl
theorem tf_55 : tflds Tryz.prog 55 = some [(0, 1, false), (1, 1, false), (2, 1, false), (3, 2, true)] := by kernel_rfl
theorem nk_59 : nkT Tryz.prog 59 = some .nkp := by kernel_rfl
theorem td_59 : tdat Tryz.prog 59 = some ⟨false, 1, 8, .pointer none⟩ := by kernel_rfl
theorem zv_59 : ofV (.pointer none) = .v (.pointer none) := by kernel_rfl
theorem nk_61 : nkT Tryz.prog 61 = some .nkp := by kernel_rfl
theorem td_61 : tdat Tryz.prog 61 = some ⟨false, 1, 8, .pointer none⟩ := by kernel_rfl
theorem zv_61 : ofV (.pointer none) = .v (.pointer none) := by kernel_rfl
theorem td_63 : tdat Tryz.prog 63 = some ⟨true, 5, 56, .agg #[.int .i64 0, .int .i64 0, .string ⟨#[]⟩, .bool false, .nilIface]⟩ := by kernel_rfl
theorem zv_63 : ofV (.agg #[.int .i64 0, .int .i64 0, .string ⟨#[]⟩, .bool false, .nilIface]) = .ag [.v (.int .i64 0), .v (.int .i64 0), .v (.string ⟨#[]⟩), .v (.bool false), .v .nilIface] := by kernel_rfl
theorem tf_63 : tflds Tryz.prog 63 = some [(0, 2, true), (2, 1, false), (3, 1, false), (4, 1, false)] := by kernel_rfl
theorem td_64 : tdat Tryz.prog 64 = some ⟨false, 1, 24, .slice none 0 0⟩ := by kernel_rfl
theorem zv_64 : ofV (.slice none 0 0) = .sl .full [] := by kernel_rfl
theorem tel_64 : tel Tryz.prog 64 = some 106 := by kernel_rfl
theorem td_65 : tdat Tryz.prog 65 = some ⟨false, 1, 24, .slice none 0 0⟩ := by kernel_rfl
theorem zv_65 : ofV (.slice none 0 0) = .sl .full [] := by kernel_rfl
theorem tel_65 : tel Tryz.prog 65 = some 113 := by kernel_rfl
theorem td_67 : tdat Tryz.prog 67 = some ⟨true, 2, 48, .agg #[.slice none 0 0, .slice none 0 0]⟩ := by kernel_rfl
theorem zv_67 : ofV (.agg #[.slice none 0 0, .slice none 0 0]) = .ag [.sl .full [], .sl .full []] := by kernel_rfl
theorem tf_67 : tflds Tryz.prog 67 = some [(0, 1, false), (1, 1, false)] := by kernel_rfl
theorem td_73 : tdat Tryz.prog 73 = some ⟨false, 1, 24, .slice none 0 0⟩ := by kernel_rfl
theorem zv_73 : ofV (.slice none 0 0) = .sl .full [] := by kernel_rfl
theorem tel_73 : tel Tryz.prog 73 = some 80 := by kernel_rfl
theorem td_77 : tdat Tryz.prog 77 = some ⟨true, 1, 16, .agg #[.nilIface]⟩ := by kernel_rfl
theorem zv_77 : ofV (.agg #[.nilIface]) = .ag [.v .nilIface] := by kernel_rfl
theorem tf_77 : tflds Tryz.prog 77 = some [(0, 1, false)] := by kernel_rfl
theorem td_79 : tdat Tryz.prog 79 = some ⟨true, 3, 40, .agg #[.slice none 0 0, .int .i64 0, .int .i64 0]⟩ := by kernel_rfl
theorem zv_79 : ofV (.agg #[.slice none 0 0, .int .i64 0, .int .i64 0]) = .ag [.sl .full [], .v (.int .i64 0), .v (.int .i64 0)] := by kernel_rfl
theorem tf_79 : tflds Tryz.prog 79 = some [(0, 1, false), (1, 1, false), (2, 1, false)] := by kernel_rfl
theorem td_80 : tdat Tryz.prog 80 = some ⟨true, 5, 48, .agg #[.int .u8 0, .string ⟨#[]⟩, .int .i32 0, .int .i64 0, .int .i64 0]⟩ := by kernel_rfl
theorem zv_80 : ofV (.agg #[.int .u8 0, .string ⟨#[]⟩, .int .i32 0, .int .i64 0, .int .i64 0]) = .ag [.v (.int .u8 0), .v (.string ⟨#[]⟩), .v (.int .i32 0), .v (.int .i64 0), .v (.int .i64 0)] := by kernel_rfl
theorem tf_80 : tflds Tryz.prog 80 = some [(0, 1, false), (1, 1, false), (2, 1, false), (3, 2, true)] := by kernel_rfl
theorem nk_89 : nkT Tryz.prog 89 = some .nki := by kernel_rfl
theorem nk_90 : nkT Tryz.prog 90 = some .nki := by kernel_rfl
theorem td_106 : tdat Tryz.prog 106 = some ⟨true, 4, 56, .agg #[.string ⟨#[]⟩, .slice none 0 0, .int .i64 0, .int .i64 0]⟩ := by kernel_rfl
theorem zv_106 : ofV (.agg #[.string ⟨#[]⟩, .slice none 0 0, .int .i64 0, .int .i64 0]) = .ag [.v (.string ⟨#[]⟩), .sl .full [], .v (.int .i64 0), .v (.int .i64 0)] := by kernel_rfl
theorem tf_106 : tflds Tryz.prog 106 = some [(0, 1, false), (1, 1, false), (2, 2, true)] := by kernel_rfl
theorem td_108 : tdat Tryz.prog 108 = some ⟨false, 1, 24, .slice none 0 0⟩ := by kernel_rfl
theorem zv_108 : ofV (.slice none 0 0) = .sl .full [] := by kernel_rfl
theorem tel_108 : tel Tryz.prog 108 = some 149 := by kernel_rfl
theorem td_109 : tdat Tryz.prog 109 = some ⟨false, 1, 24, .slice none 0 0⟩ := by kernel_rfl
theorem zv_109 : ofV (.slice none 0 0) = .sl .full [] := by kernel_rfl
theorem tel_109 : tel Tryz.prog 109 = some 154 := by kernel_rfl
theorem td_111 : tdat Tryz.prog 111 = some ⟨true, 2, 48, .agg #[.slice none 0 0, .slice none 0 0]⟩ := by kernel_rfl
theorem zv_111 : ofV (.agg #[.slice none 0 0, .slice none 0 0]) = .ag [.sl .full [], .sl .full []] := by kernel_rfl
theorem tf_111 : tflds Tryz.prog 111 = some [(0, 1, false), (1, 1, false)] := by kernel_rfl
theorem td_113 : tdat Tryz.prog 113 = some ⟨true, 7, 128, .agg #[.string ⟨#[]⟩, .slice none 0 0, .slice none 0 0, .slice none 0 0, .slice none 0 0, .int .i64 0, .int .i64 0]⟩ := by kernel_rfl
theorem zv_113 : ofV (.agg #[.string ⟨#[]⟩, .slice none 0 0, .slice none 0 0, .slice none 0 0, .slice none 0 0, .int .i64 0, .int .i64 0]) = .ag [.v (.string ⟨#[]⟩), .sl .full [], .sl .full [], .sl .full [], .sl .full [], .v (.int .i64 0), .v (.int .i64 0)] := by kernel_rfl
theorem tf_113 : tflds Tryz.prog 113 = some [(0, 1, false), (1, 1, false), (2, 1, false), (3, 2, true), (5, 2, true)] := by kernel_rfl
theorem nk_117 : nkT Tryz.prog 117 = some .nkp := by kernel_rfl
theorem nk_128 : nkT Tryz.prog 128 = some .nkp := by kernel_rfl
theorem nk_129 : nkT Tryz.prog 129 = some .nki := by kernel_rfl
theorem nk_132 : nkT Tryz.prog 132 = some .nki := by kernel_rfl
theorem nk_134 : nkT Tryz.prog 134 = some .nki := by kernel_rfl
theorem nk_139 : nkT Tryz.prog 139 = some .nki := by kernel_rfl
theorem td_146 : tdat Tryz.prog 146 = some ⟨true, 2, 24, .agg #[.int .u8 0, .string ⟨#[]⟩]⟩ := by kernel_rfl
theorem zv_146 : ofV (.agg #[.int .u8 0, .string ⟨#[]⟩]) = .ag [.v (.int .u8 0), .v (.string ⟨#[]⟩)] := by kernel_rfl
theorem tf_146 : tflds Tryz.prog 146 = some [(0, 1, false), (1, 1, false)] := by kernel_rfl
theorem fl_146 : flat1 Tryz.prog 146 = some [.ski, .sks] := by kernel_rfl
theorem td_147 : tdat Tryz.prog 147 = some ⟨false, 1, 24, .slice none 0 0⟩ := by kernel_rfl
theorem zv_147 : ofV (.slice none 0 0) = .sl .full [] := by kernel_rfl
theorem tel_147 : tel Tryz.prog 147 = some 165 := by kernel_rfl
theorem td_149 : tdat Tryz.prog 149 = some ⟨true, 15, 176, .agg #[.string ⟨#[]⟩, .int .u8 0, .string ⟨#[]⟩, .slice none 0 0, .bool false, .int .u8 0, .int .u8 0, .int .i32 0, .string ⟨#[]⟩, .slice none 0 0, .slice none 0 0, .int .i64 0, .int .i64 0, .int .i64 0, .int .i64 0]⟩ := by kernel_rfl
theorem zv_149 : ofV (.agg #[.string ⟨#[]⟩, .int .u8 0, .string ⟨#[]⟩, .slice none 0 0, .bool false, .int .u8 0, .int .u8 0, .int .i32 0, .string ⟨#[]⟩, .slice none 0 0, .slice none 0 0, .int .i64 0, .int .i64 0, .int .i64 0, .int .i64 0]) = .ag [.v (.string ⟨#[]⟩), .v (.int .u8 0), .v (.string ⟨#[]⟩), .sl .full [], .v (.bool false), .v (.int .u8 0), .v (.int .u8 0), .v (.int .i32 0), .v (.string ⟨#[]⟩), .sl .full [], .sl .full [], .v (.int .i64 0), .v (.int .i64 0), .v (.int .i64 0), .v (.int .i64 0)] := by kernel_rfl
theorem tf_149 : tflds Tryz.prog 149 = some [(0, 1, false), (1, 2, true), (3, 1, false), (4, 1, false), (5, 8, true), (13, 2, true)] := by kernel_rfl
theorem td_152 : tdat Tryz.prog 152 = some ⟨false, 1, 24, .slice none 0 0⟩ := by kernel_rfl
theorem zv_152 : ofV (.slice none 0 0) = .sl .full [] := by kernel_rfl
theorem tel_152 : tel Tryz.prog 152 = some 157 := by kernel_rfl
theorem td_154 : tdat Tryz.prog 154 = some ⟨true, 16, 208, .agg #[.int .u8 0, .slice none 0 0, .string ⟨#[]⟩, .slice none 0 0, .bool false, .int .u8 0, .int .u8 0, .int .i32 0, .string ⟨#[]⟩, .slice none 0 0, .slice none 0 0, .int .i64 0, .int .i64 0, .slice none 0 0, .int .i64 0, .int .i64 0]⟩ := by kernel_rfl
theorem zv_154 : ofV (.agg #[.int .u8 0, .slice none 0 0, .string ⟨#[]⟩, .slice none 0 0, .bool false, .int .u8 0, .int .u8 0, .int .i32 0, .string ⟨#[]⟩, .slice none 0 0, .slice none 0 0, .int .i64 0, .int .i64 0, .slice none 0 0, .int .i64 0, .int .i64 0]) = .ag [.v (.int .u8 0), .sl .full [], .v (.string ⟨#[]⟩), .sl .full [], .v (.bool false), .v (.int .u8 0), .v (.int .u8 0), .v (.int .i32 0), .v (.string ⟨#[]⟩), .sl .full [], .sl .full [], .v (.int .i64 0), .v (.int .i64 0), .sl .full [], .v (.int .i64 0), .v (.int .i64 0)] := by kernel_rfl
theorem tf_154 : tflds Tryz.prog 154 = some [(0, 1, false), (1, 1, false), (2, 1, false), (3, 1, false), (4, 1, false), (5, 8, true), (13, 1, false), (14, 2, true)] := by kernel_rfl
theorem td_155 : tdat Tryz.prog 155 = some ⟨false, 1, 24, .slice none 0 0⟩ := by kernel_rfl
theorem zv_155 : ofV (.slice none 0 0) = .sl .full [] := by kernel_rfl
theorem tel_155 : tel Tryz.prog 155 = some 168 := by kernel_rfl
theorem td_157 : tdat Tryz.prog 157 = some ⟨true, 7, 128, .agg #[.string ⟨#[]⟩, .slice none 0 0, .slice none 0 0, .slice none 0 0, .slice none 0 0, .int .i64 0, .int .i64 0]⟩ := by kernel_rfl
theorem zv_157 : ofV (.agg #[.string ⟨#[]⟩, .slice none 0 0, .slice none 0 0, .slice none 0 0, .slice none 0 0, .int .i64 0, .int .i64 0]) = .ag [.v (.string ⟨#[]⟩), .sl .full [], .sl .full [], .sl .full [], .sl .full [], .v (.int .i64 0), .v (.int .i64 0)] := by kernel_rfl
theorem tf_157 : tflds Tryz.prog 157 = some [(0, 1, false), (1, 2, true), (3, 1, false), (4, 1, false), (5, 2, true)] := by kernel_rfl
theorem td_165 : tdat Tryz.prog 165 = some ⟨true, 2, 32, .agg #[.string ⟨#[]⟩, .string ⟨#[]⟩]⟩ := by kernel_rfl
theorem zv_165 : ofV (.agg #[.string ⟨#[]⟩, .string ⟨#[]⟩]) = .ag [.v (.string ⟨#[]⟩), .v (.string ⟨#[]⟩)] := by kernel_rfl
theorem tf_165 : tflds Tryz.prog 165 = some [(0, 1, false), (1, 1, false)] := by kernel_rfl
theorem fl_165 : flat1 Tryz.prog 165 = some [.sks, .sks] := by kernel_rfl
theorem td_168 : tdat Tryz.prog 168 = some ⟨true, 12, 128, .agg #[.int .u8 0, .int .u8 0, .int .i32 0, .string ⟨#[]⟩, .slice none 0 0, .slice none 0 0, .int .i64 0, .int .i64 0, .string ⟨#[]⟩, .bool false, .int .i64 0, .int .i64 0]⟩ := by kernel_rfl
theorem zv_168 : ofV (.agg #[.int .u8 0, .int .u8 0, .int .i32 0, .string ⟨#[]⟩, .slice none 0 0, .slice none 0 0, .int .i64 0, .int .i64 0, .string ⟨#[]⟩, .bool false, .int .i64 0, .int .i64 0]) = .ag [.v (.int .u8 0), .v (.int .u8 0), .v (.int .i32 0), .v (.string ⟨#[]⟩), .sl .full [], .sl .full [], .v (.int .i64 0), .v (.int .i64 0), .v (.string ⟨#[]⟩), .v (.bool false), .v (.int .i64 0), .v (.int .i64 0)] := by kernel_rfl
theorem tf_168 : tflds Tryz.prog 168 = some [(0, 8, true), (8, 1, false), (9, 1, false), (10, 2, true)] := by kernel_rfl
theorem td_172 : tdat Tryz.prog 172 = some ⟨true, 24, 264, .agg #[.int .u8 0, .int .u8 0, .int .i32 0, .string ⟨#[]⟩, .slice none 0 0, .slice none 0 0, .int .i64 0, .int .i64 0, .int .u8 0, .int .u8 0, .int .i32 0, .string ⟨#[]⟩, .slice none 0 0, .slice none 0 0, .int .i64 0, .int .i64 0, .int .u8 0, .int .u8 0, .int .i32 0, .string ⟨#[]⟩, .slice none 0 0, .slice none 0 0, .int .i64 0, .int .i64 0]⟩ := by kernel_rfl
theorem zv_172 : ofV (.agg #[.int .u8 0, .int .u8 0, .int .i32 0, .string ⟨#[]⟩, .slice none 0 0, .slice none 0 0, .int .i64 0, .int .i64 0, .int .u8 0, .int .u8 0, .int .i32 0, .string ⟨#[]⟩, .slice none 0 0, .slice none 0 0, .int .i64 0, .int .i64 0, .int .u8 0, .int .u8 0, .int .i32 0, .string ⟨#[]⟩, .slice none 0 0, .slice none 0 0, .int .i64 0, .int .i64 0]) = .ag [.v (.int .u8 0), .v (.int .u8 0), .v (.int .i32 0), .v (.string ⟨#[]⟩), .sl .full [], .sl .full [], .v (.int .i64 0), .v (.int .i64 0), .v (.int .u8 0), .v (.int .u8 0), .v (.int .i32 0), .v (.string ⟨#[]⟩), .sl .full [], .sl .full [], .v (.int .i64 0), .v (.int .i64 0), .v (.int .u8 0), .v (.int .u8 0), .v (.int .i32 0), .v (.string ⟨#[]⟩), .sl .full [], .sl .full [], .v (.int .i64 0), .v (.int .i64 0)] := by kernel_rfl
theorem tf_172 : tflds Tryz.prog 172 = none := by kernel_rfl
theorem tel_172 : tel Tryz.prog 172 = none := by kernel_rfl
theorem ta_172 : tarr Tryz.prog 172 = some (3, 29) := by kernel_rfl
theorem nk_179 : nkT Tryz.prog 179 = some .nkp := by kernel_rfl
theorem td_181 : tdat Tryz.prog 181 = some ⟨true, 17, 272, .agg #[.string ⟨#[]⟩, .string ⟨#[]⟩, .string ⟨#[]⟩, .string ⟨#[]⟩, .string ⟨#[]⟩, .string ⟨#[]⟩, .string ⟨#[]⟩, .string ⟨#[]⟩, .string ⟨#[]⟩, .string ⟨#[]⟩, .string ⟨#[]⟩, .string ⟨#[]⟩, .string ⟨#[]⟩, .string ⟨#[]⟩, .string ⟨#[]⟩, .string ⟨#[]⟩, .string ⟨#[]⟩]⟩ := by kernel_rfl
theorem zv_181 : ofV (.agg #[.string ⟨#[]⟩, .string ⟨#[]⟩, .string ⟨#[]⟩, .string ⟨#[]⟩, .string ⟨#[]⟩, .string ⟨#[]⟩, .string ⟨#[]⟩, .string ⟨#[]⟩, .string ⟨#[]⟩, .string ⟨#[]⟩, .string ⟨#[]⟩, .string ⟨#[]⟩, .string ⟨#[]⟩, .string ⟨#[]⟩, .string ⟨#[]⟩, .string ⟨#[]⟩, .string ⟨#[]⟩]) = .ag [.v (.string ⟨#[]⟩), .v (.string ⟨#[]⟩), .v (.string ⟨#[]⟩), .v (.string ⟨#[]⟩), .v (.string ⟨#[]⟩), .v (.string ⟨#[]⟩), .v (.string ⟨#[]⟩), .v (.string ⟨#[]⟩), .v (.string ⟨#[]⟩), .v (.string ⟨#[]⟩), .v (.string ⟨#[]⟩), .v (.string ⟨#[]⟩), .v (.string ⟨#[]⟩), .v (.string ⟨#[]⟩), .v (.string ⟨#[]⟩), .v (.string ⟨#[]⟩), .v (.string ⟨#[]⟩)] := by kernel_rfl
theorem tf_181 : tflds Tryz.prog 181 = none := by kernel_rfl
theorem tel_181 : tel Tryz.prog 181 = none := by kernel_rfl
theorem ta_181 : tarr Tryz.prog 181 = some (17, 9) := by kernel_rfl
theorem nk_202 : nkT Tryz.prog 202 = some .nkp := by kernel_rfl
theorem nk_211 : nkT Tryz.prog 211 = some .nkp := by kernel_rfl
theorem nk_220 : nkT Tryz.prog 220 = some .nkp := by kernel_rfl
set_option linter.defProp false
def tfA0 := And.intro @td_2 (And.intro @zv_2 (And.intro @Tryz.underlying2 (And.intro @td_3 (And.intro @zv_3 (And.intro @Tryz.underlying3 (And.intro @td_4 (And.intro @zv_4 (And.intro @Tryz.underlying4 (And.intro @td_5 (And.intro @zv_5 (And.intro @Tryz.underlying5 (And.intro @td_9 (And.intro @zv_9 (And.intro @Tryz.underlying9 (And.intro @nk_15 (And.intro @nk_16 (And.intro @nk_17 (And.intro @nk_20 (And.intro @td_20 (And.intro @zv_20 (And.intro @td_21 (And.intro @zv_21 (And.intro @Tryz.underlying21 (And.intro @td_22 (And.intro @zv_22 (And.intro @tel_22 (And.intro @Tryz.underlying22 (And.intro @td_24 @zv_24))))))))))))))))))))))))))))
def tfA1 := And.intro @tel_24 (And.intro @Tryz.underlying24 (And.intro @td_25 (And.intro @zv_25 (And.intro @tel_25 (And.intro @Tryz.underlying25 (And.intro @td_27 (And.intro @zv_27 (And.intro @tf_27 (And.intro @fl_27 (And.intro @td_29 (And.intro @zv_29 (And.intro @tf_29 (And.intro @nk_30 (And.intro @nk_31 (And.intro @td_31 (And.intro @zv_31 (And.intro @td_34 (And.intro @zv_34 (And.intro @Tryz.underlying34 (And.intro @nk_45 (And.intro @td_45 (And.intro @zv_45 (And.intro @Tryz.underlying45 (And.intro @nk_47 (And.intro @td_48 (And.intro @zv_48 (And.intro @tel_48 (And.intro @Tryz.underlying48 @nk_51))))))))))))))))))))))))))))
def tfA2 := And.intro @td_51 (And.intro @zv_51 (And.intro @Tryz.underlying51 (And.intro @td_53 (And.intro @zv_53 (And.intro @tf_53 (And.intro @td_55 (And.intro @zv_55 (And.intro @tf_55 (And.intro @nk_59 (And.intro @td_59 (And.intro @zv_59 (And.intro @Tryz.underlying59 (And.intro @nk_61 (And.intro @td_61 (And.intro @zv_61 (And.intro @Tryz.underlying61 (And.intro @td_63 (And.intro @zv_63 (And.intro @tf_63 (And.intro @td_64 (And.intro @zv_64 (And.intro @tel_64 (And.intro @Tryz.underlying64 (And.intro @td_65 (And.intro @zv_65 (And.intro @tel_65 (And.intro @Tryz.underlying65 (And.intro @td_67 @zv_67))))))))))))))))))))))))))))
def tfA3 := And.intro @tf_67 (And.intro @td_73 (And.intro @zv_73 (And.intro @tel_73 (And.intro @Tryz.underlying73 (And.intro @td_77 (And.intro @zv_77 (And.intro @tf_77 (And.intro @td_79 (And.intro @zv_79 (And.intro @tf_79 (And.intro @td_80 (And.intro @zv_80 (And.intro @tf_80 (And.intro @nk_89 (And.intro @nk_90 (And.intro @td_106 (And.intro @zv_106 (And.intro @tf_106 (And.intro @td_108 (And.intro @zv_108 (And.intro @tel_108 (And.intro @Tryz.underlying108 (And.intro @td_109 (And.intro @zv_109 (And.intro @tel_109 (And.intro @Tryz.underlying109 (And.intro @td_111 (And.intro @zv_111 @tf_111))))))))))))))))))))))))))))
def tfA4 := And.intro @td_113 (And.intro @zv_113 (And.intro @tf_113 (And.intro @nk_117 (And.intro @nk_128 (And.intro @nk_129 (And.intro @nk_132 (And.intro @nk_134 (And.intro @nk_139 (And.intro @td_146 (And.intro @zv_146 (And.intro @tf_146 (And.intro @fl_146 (And.intro @td_147 (And.intro @zv_147 (And.intro @tel_147 (And.intro @Tryz.underlying147 (And.intro @td_149 (And.intro @zv_149 (And.intro @tf_149 (And.intro @td_152 (And.intro @zv_152 (And.intro @tel_152 (And.intro @Tryz.underlying152 (And.intro @td_154 (And.intro @zv_154 (And.intro @tf_154 (And.intro @td_155 (And.intro @zv_155 @tel_155))))))))))))))))))))))))))))
def tfA5 := And.intro @Tryz.underlying155 (And.intro @td_157 (And.intro @zv_157 (And.intro @tf_157 (And.intro @td_165 (And.intro @zv_165 (And.intro @tf_165 (And.intro @fl_165 (And.intro @td_168 (And.intro @zv_168 (And.intro @tf_168 (And.intro @td_172 (And.intro @zv_172 (And.intro @tf_172 (And.intro @tel_172 (And.intro @ta_172 (And.intro @Tryz.underlying172 (And.intro @nk_179 (And.intro @td_181 (And.intro @zv_181 (And.intro @tf_181 (And.intro @tel_181 (And.intro @ta_181 (And.intro @Tryz.underlying181 (And.intro @nk_202 (And.intro @nk_211 @nk_220)))))))))))))))))))))))))
def tfA := And.intro @tfA0 (And.intro @tfA1 (And.intro @tfA2 (And.intro @tfA3 (And.intro @tfA4 @tfA5))))
end Go.Proofs.YtohgdopfjkjppaaGreatDoor
