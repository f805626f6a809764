/-
 Closed facts on the types of this seat.
-/
-- halved
import Derived.Test.YtaealemhegdmpaaRows
import Derived.Test.YtaealemhegdmpaaWpA
import Derived.KernelRfl
namespace Go.Proofs.Ytaealemhegdmpaa
open Go Go.RowKit
theorem ok_mix : Try.prog.follows .mixedOrders = true := by kernel_rfl
theorem td_3 : tdat Try.prog 3 = some ⟨false, 1, 8, .int .i64 0⟩ := by kernel_rfl
theorem zv_3 : ofV (.int .i64 0) = .v (.int .i64 0) := by kernel_rfl
theorem td_4 : tdat Try.prog 4 = some ⟨false, 1, 1, .bool false⟩ := by kernel_rfl
theorem zv_4 : ofV (.bool false) = .v (.bool false) := by kernel_rfl
theorem td_5 : tdat Try.prog 5 = some ⟨false, 1, 1, .int .u8 0⟩ := by kernel_rfl
theorem zv_5 : ofV (.int .u8 0) = .v (.int .u8 0) := by kernel_rfl
theorem td_9 : tdat Try.prog 9 = some ⟨false, 1, 16, .string ⟨#[]⟩⟩ := by kernel_rfl
theorem zv_9 : ofV (.string ⟨#[]⟩) = .v (.string ⟨#[]⟩) := by kernel_rfl
theorem nk_15 : nkT Try.prog 15 = some .nkp := by kernel_rfl
theorem nk_16 : nkT Try.prog 16 = some .nkp := by kernel_rfl
theorem nk_17 : nkT Try.prog 17 = some .nkp := by kernel_rfl
theorem nk_20 : nkT Try.prog 20 = some .nki := by kernel_rfl
theorem td_20 : tdat Try.prog 20 = some ⟨false, 1, 16, .nilIface⟩ := by kernel_rfl
theorem zv_20 : ofV (.nilIface) = .v .nilIface := by kernel_rfl
theorem td_21 : tdat Try.prog 21 = some ⟨false, 1, 4, .int .i32 0⟩ := by kernel_rfl
theorem zv_21 : ofV (.int .i32 0) = .v (.int .i32 0) := by kernel_rfl
theorem td_22 : tdat Try.prog 22 = some ⟨false, 1, 24, .slice none 0 0⟩ := by kernel_rfl
theorem zv_22 : ofV (.slice none 0 0) = .sl .full [] := by kernel_rfl
theorem tel_22 : tel Try.prog 22 = some 5 := by kernel_rfl
theorem nk_24 : nkT Try.prog 24 = some .nki := by kernel_rfl
theorem nk_25 : nkT Try.prog 25 = some .nki := by kernel_rfl
theorem td_25 : tdat Try.prog 25 = some ⟨false, 1, 16, .nilIface⟩ := by kernel_rfl
theorem zv_25 : ofV (.nilIface) = .v .nilIface := by kernel_rfl
theorem td_27 : tdat Try.prog 27 = some ⟨false, 1, 24, .slice none 0 0⟩ := by kernel_rfl
theorem zv_27 : ofV (.slice none 0 0) = .sl .full [] := by kernel_rfl
theorem tel_27 : tel Try.prog 27 = some 71 := by kernel_rfl
theorem td_28 : tdat Try.prog 28 = some ⟨false, 1, 24, .slice none 0 0⟩ := by kernel_rfl
theorem zv_28 : ofV (.slice none 0 0) = .sl .full [] := by kernel_rfl
theorem tel_28 : tel Try.prog 28 = some 44 := by kernel_rfl
theorem td_30 : tdat Try.prog 30 = some ⟨true, 2, 48, .agg #[.slice none 0 0, .slice none 0 0]⟩ := by kernel_rfl
theorem zv_30 : ofV (.agg #[.slice none 0 0, .slice none 0 0]) = .ag [.sl .full [], .sl .full []] := by kernel_rfl
theorem tf_30 : tflds Try.prog 30 = some [(0, 1, false), (1, 1, false)] := by kernel_rfl
theorem td_33 : tdat Try.prog 33 = some ⟨false, 1, 24, .slice none 0 0⟩ := by kernel_rfl
theorem zv_33 : ofV (.slice none 0 0) = .sl .full [] := by kernel_rfl
theorem tel_33 : tel Try.prog 33 = some 9 := by kernel_rfl
theorem td_34 : tdat Try.prog 34 = some ⟨false, 1, 24, .slice none 0 0⟩ := by kernel_rfl
theorem zv_34 : ofV (.slice none 0 0) = .sl .full [] := by kernel_rfl
theorem tel_34 : tel Try.prog 34 = some 54 := by kernel_rfl
theorem td_37 : tdat Try.prog 37 = some ⟨false, 1, 24, .slice none 0 0⟩ := by kernel_rfl
theorem zv_37 : ofV (.slice none 0 0) = .sl .full [] := by kernel_rfl
theorem tel_37 : tel Try.prog 37 = some 85 := by kernel_rfl
theorem td_38 : tdat Try.prog 38 = some ⟨false, 1, 24, .slice none 0 0⟩ := by kernel_rfl
theorem zv_38 : ofV (.slice none 0 0) = .sl .full [] := by kernel_rfl
theorem tel_38 : tel Try.prog 38 = some 90 := by kernel_rfl
theorem td_40 : tdat Try.prog 40 = some ⟨true, 2, 48, .agg #[.slice none 0 0, .slice none 0 0]⟩ := by kernel_rfl
theorem zv_40 : ofV (.agg #[.slice none 0 0, .slice none 0 0]) = .ag [.sl .full [], .sl .full []] := by kernel_rfl
theorem tf_40 : tflds Try.prog 40 = some [(0, 1, false), (1, 1, false)] := by kernel_rfl
theorem td_42 : tdat Try.prog 42 = some ⟨true, 2, 16, .agg #[.int .i64 0, .int .i64 0]⟩ := by kernel_rfl
theorem zv_42 : ofV (.agg #[.int .i64 0, .int .i64 0]) = .ag [.v (.int .i64 0), .v (.int .i64 0)] := by kernel_rfl
theorem tf_42 : tflds Try.prog 42 = some [(0, 1, false), (1, 1, false)] := by kernel_rfl
theorem fl_42 : flat1 Try.prog 42 = some [.ski, .ski] := by kernel_rfl
theorem td_44 : tdat Try.prog 44 = some ⟨true, 7, 128, .agg #[.string ⟨#[]⟩, .slice none 0 0, .slice none 0 0, .slice none 0 0, .slice none 0 0, .int .i64 0, .int .i64 0]⟩ := by kernel_rfl
theorem zv_44 : ofV (.agg #[.string ⟨#[]⟩, .slice none 0 0, .slice none 0 0, .slice none 0 0, .slice none 0 0, .int .i64 0, .int .i64 0]) = .ag [.v (.string ⟨#[]⟩), .sl .full [], .sl .full [], .sl .full [], .sl .full [], .v (.int .i64 0), .v (.int .i64 0)] := by kernel_rfl
theorem tf_44 : tflds Try.prog 44 = some [(0, 1, false), (1, 1, false), (2, 1, false), (3, 2, true), (5, 2, true)] := by kernel_rfl
theorem nk_45 : nkT Try.prog 45 = some .nkp := by kernel_rfl
theorem td_53 : tdat Try.prog 53 = some ⟨false, 1, 24, .slice none 0 0⟩ := by kernel_rfl
theorem zv_53 : ofV (.slice none 0 0) = .sl .full [] := by kernel_rfl
theorem tel_53 : tel Try.prog 53 = some 4 := by kernel_rfl
theorem td_54 : tdat Try.prog 54 = some ⟨false, 1, 24, .slice none 0 0⟩ := by kernel_rfl
theorem zv_54 : ofV (.slice none 0 0) = .sl .full [] := by kernel_rfl
theorem tel_54 : tel Try.prog 54 = some 3 := by kernel_rfl
theorem td_56 : tdat Try.prog 56 = some ⟨false, 1, 8, .int .i64 0⟩ := by kernel_rfl
theorem zv_56 : ofV (.int .i64 0) = .v (.int .i64 0) := by kernel_rfl
theorem nk_58 : nkT Try.prog 58 = some .nkp := by kernel_rfl
theorem td_58 : tdat Try.prog 58 = some ⟨false, 1, 8, .pointer none⟩ := by kernel_rfl
theorem zv_58 : ofV (.pointer none) = .v (.pointer none) := by kernel_rfl
theorem td_60 : tdat Try.prog 60 = some ⟨false, 1, 24, .slice none 0 0⟩ := by kernel_rfl
theorem zv_60 : ofV (.slice none 0 0) = .sl .full [] := by kernel_rfl
theorem tel_60 : tel Try.prog 60 = some 64 := by kernel_rfl
theorem td_62 : tdat Try.prog 62 = some ⟨true, 1, 24, .agg #[.slice none 0 0]⟩ := by kernel_rfl
theorem zv_62 : ofV (.agg #[.slice none 0 0]) = .ag [.sl .full []] := by kernel_rfl
theorem tf_62 : tflds Try.prog 62 = some [(0, 1, false)] := by kernel_rfl
theorem td_64 : tdat Try.prog 64 = some ⟨true, 4, 56, .agg #[.string ⟨#[]⟩, .int .i64 0, .int .i64 0, .slice none 0 0]⟩ := by kernel_rfl
theorem zv_64 : ofV (.agg #[.string ⟨#[]⟩, .int .i64 0, .int .i64 0, .slice none 0 0]) = .ag [.v (.string ⟨#[]⟩), .v (.int .i64 0), .v (.int .i64 0), .sl .full []] := by kernel_rfl
theorem tf_64 : tflds Try.prog 64 = some [(0, 1, false), (1, 2, true), (3, 1, false)] := by kernel_rfl
theorem nk_67 : nkT Try.prog 67 = some .nkp := by kernel_rfl
theorem td_67 : tdat Try.prog 67 = some ⟨false, 1, 8, .pointer none⟩ := by kernel_rfl
theorem zv_67 : ofV (.pointer none) = .v (.pointer none) := by kernel_rfl
theorem td_69 : tdat Try.prog 69 = some ⟨true, 2, 32, .agg #[.slice none 0 0, .int .i64 0]⟩ := by kernel_rfl
theorem zv_69 : ofV (.agg #[.slice none 0 0, .int .i64 0]) = .ag [.sl .full [], .v (.int .i64 0)] := by kernel_rfl
theorem tf_69 : tflds Try.prog 69 = some [(0, 1, false), (1, 1, false)] := by kernel_rfl
theorem td_71 : tdat Try.prog 71 = some ⟨true, 4, 56, .agg #[.string ⟨#[]⟩, .slice none 0 0, .int .i64 0, .int .i64 0]⟩ := by kernel_rfl
theorem zv_71 : ofV (.agg #[.string ⟨#[]⟩, .slice none 0 0, .int .i64 0, .int .i64 0]) = .ag [.v (.string ⟨#[]⟩), .sl .full [], .v (.int .i64 0), .v (.int .i64 0)] := by kernel_rfl
theorem tf_71 : tflds Try.prog 71 = some [(0, 1, false), (1, 1, false), (2, 2, true)] := by kernel_rfl
theorem nk_73 : nkT Try.prog 73 = some .nkp := by kernel_rfl
theorem td_73 : tdat Try.prog 73 = some ⟨false, 1, 8, .pointer none⟩ := by kernel_rfl
theorem zv_73 : ofV (.pointer none) = .v (.pointer none) := by kernel_rfl
theorem td_75 : tdat Try.prog 75 = some ⟨true, 5, 40, .agg #[.pointer none, .int .i64 0, .int .i64 0, .int .i64 0, .bool false]⟩ := by kernel_rfl
theorem zv_75 : ofV (.agg #[.pointer none, .int .i64 0, .int .i64 0, .int .i64 0, .bool false]) = .ag [.v (.pointer none), .v (.int .i64 0), .v (.int .i64 0), .v (.int .i64 0), .v (.bool false)] := by kernel_rfl
theorem tf_75 : tflds Try.prog 75 = some [(0, 1, false), (1, 1, false), (2, 1, false), (3, 1, false), (4, 1, false)] := by kernel_rfl
theorem td_79 : tdat Try.prog 79 = some ⟨true, 2, 24, .agg #[.int .u8 0, .string ⟨#[]⟩]⟩ := by kernel_rfl
theorem zv_79 : ofV (.agg #[.int .u8 0, .string ⟨#[]⟩]) = .ag [.v (.int .u8 0), .v (.string ⟨#[]⟩)] := by kernel_rfl
theorem tf_79 : tflds Try.prog 79 = some [(0, 1, false), (1, 1, false)] := by kernel_rfl
theorem fl_79 : flat1 Try.prog 79 = some [.ski, .sks] := by kernel_rfl
theorem td_80 : tdat Try.prog 80 = some ⟨false, 1, 24, .slice none 0 0⟩ := by kernel_rfl
theorem zv_80 : ofV (.slice none 0 0) = .sl .full [] := by kernel_rfl
theorem tel_80 : tel Try.prog 80 = some 110 := by kernel_rfl
theorem td_81 : tdat Try.prog 81 = some ⟨false, 1, 24, .slice none 0 0⟩ := by kernel_rfl
theorem zv_81 : ofV (.slice none 0 0) = .sl .full [] := by kernel_rfl
theorem tel_81 : tel Try.prog 81 = some 83 := by kernel_rfl
theorem td_83 : tdat Try.prog 83 = some ⟨true, 8, 88, .agg #[.int .u8 0, .int .u8 0, .int .i32 0, .string ⟨#[]⟩, .slice none 0 0, .slice none 0 0, .int .i64 0, .int .i64 0]⟩ := by kernel_rfl
theorem zv_83 : ofV (.agg #[.int .u8 0, .int .u8 0, .int .i32 0, .string ⟨#[]⟩, .slice none 0 0, .slice none 0 0, .int .i64 0, .int .i64 0]) = .ag [.v (.int .u8 0), .v (.int .u8 0), .v (.int .i32 0), .v (.string ⟨#[]⟩), .sl .full [], .sl .full [], .v (.int .i64 0), .v (.int .i64 0)] := by kernel_rfl
theorem tf_83 : tflds Try.prog 83 = some [(0, 1, false), (1, 1, false), (2, 1, false), (3, 1, false), (4, 1, false), (5, 1, false), (6, 2, true)] := by kernel_rfl
theorem td_85 : tdat Try.prog 85 = some ⟨true, 15, 176, .agg #[.string ⟨#[]⟩, .int .u8 0, .string ⟨#[]⟩, .slice none 0 0, .bool false, .int .u8 0, .int .u8 0, .int .i32 0, .string ⟨#[]⟩, .slice none 0 0, .slice none 0 0, .int .i64 0, .int .i64 0, .int .i64 0, .int .i64 0]⟩ := by kernel_rfl
theorem zv_85 : ofV (.agg #[.string ⟨#[]⟩, .int .u8 0, .string ⟨#[]⟩, .slice none 0 0, .bool false, .int .u8 0, .int .u8 0, .int .i32 0, .string ⟨#[]⟩, .slice none 0 0, .slice none 0 0, .int .i64 0, .int .i64 0, .int .i64 0, .int .i64 0]) = .ag [.v (.string ⟨#[]⟩), .v (.int .u8 0), .v (.string ⟨#[]⟩), .sl .full [], .v (.bool false), .v (.int .u8 0), .v (.int .u8 0), .v (.int .i32 0), .v (.string ⟨#[]⟩), .sl .full [], .sl .full [], .v (.int .i64 0), .v (.int .i64 0), .v (.int .i64 0), .v (.int .i64 0)] := by kernel_rfl
theorem tf_85 : tflds Try.prog 85 = some [(0, 1, false), (1, 2, true), (3, 1, false), (4, 1, false), (5, 8, true), (13, 2, true)] := by kernel_rfl
theorem td_88 : tdat Try.prog 88 = some ⟨false, 1, 24, .slice none 0 0⟩ := by kernel_rfl
theorem zv_88 : ofV (.slice none 0 0) = .sl .full [] := by kernel_rfl
theorem tel_88 : tel Try.prog 88 = some 113 := by kernel_rfl
theorem td_90 : tdat Try.prog 90 = some ⟨true, 16, 208, .agg #[.int .u8 0, .slice none 0 0, .string ⟨#[]⟩, .slice none 0 0, .bool false, .int .u8 0, .int .u8 0, .int .i32 0, .string ⟨#[]⟩, .slice none 0 0, .slice none 0 0, .int .i64 0, .int .i64 0, .slice none 0 0, .int .i64 0, .int .i64 0]⟩ := by kernel_rfl
theorem zv_90 : ofV (.agg #[.int .u8 0, .slice none 0 0, .string ⟨#[]⟩, .slice none 0 0, .bool false, .int .u8 0, .int .u8 0, .int .i32 0, .string ⟨#[]⟩, .slice none 0 0, .slice none 0 0, .int .i64 0, .int .i64 0, .slice none 0 0, .int .i64 0, .int .i64 0]) = .ag [.v (.int .u8 0), .sl .full [], .v (.string ⟨#[]⟩), .sl .full [], .v (.bool false), .v (.int .u8 0), .v (.int .u8 0), .v (.int .i32 0), .v (.string ⟨#[]⟩), .sl .full [], .sl .full [], .v (.int .i64 0), .v (.int .i64 0), .sl .full [], .v (.int .i64 0), .v (.int .i64 0)] := by kernel_rfl
theorem tf_90 : tflds Try.prog 90 = some [(0, 1, false), (1, 1, false), (2, 1, false), (3, 1, false), (4, 1, false), (5, 8, true), (13, 1, false), (14, 2, true)] := by kernel_rfl
theorem td_93 : tdat Try.prog 93 = some ⟨false, 1, 24, .slice none 0 0⟩ := by kernel_rfl
theorem zv_93 : ofV (.slice none 0 0) = .sl .full [] := by kernel_rfl
theorem tel_93 : tel Try.prog 93 = some 3 := by kernel_rfl
theorem nk_98 : nkT Try.prog 98 = some .nkp := by kernel_rfl
theorem td_98 : tdat Try.prog 98 = some ⟨false, 1, 8, .pointer none⟩ := by kernel_rfl
theorem zv_98 : ofV (.pointer none) = .v (.pointer none) := by kernel_rfl
theorem td_100 : tdat Try.prog 100 = some ⟨true, 5, 56, .agg #[.int .i64 0, .int .i64 0, .string ⟨#[]⟩, .bool false, .nilIface]⟩ := by kernel_rfl
theorem zv_100 : ofV (.agg #[.int .i64 0, .int .i64 0, .string ⟨#[]⟩, .bool false, .nilIface]) = .ag [.v (.int .i64 0), .v (.int .i64 0), .v (.string ⟨#[]⟩), .v (.bool false), .v .nilIface] := by kernel_rfl
theorem tf_100 : tflds Try.prog 100 = some [(0, 2, true), (2, 1, false), (3, 1, false), (4, 1, false)] := by kernel_rfl
theorem td_105 : tdat Try.prog 105 = some ⟨true, 3, 72, .agg #[.slice none 0 0, .slice none 0 0, .slice none 0 0]⟩ := by kernel_rfl
theorem zv_105 : ofV (.agg #[.slice none 0 0, .slice none 0 0, .slice none 0 0]) = .ag [.sl .full [], .sl .full [], .sl .full []] := by kernel_rfl
theorem tf_105 : tflds Try.prog 105 = some [(0, 1, false), (1, 1, false), (2, 1, false)] := by kernel_rfl
theorem td_110 : tdat Try.prog 110 = some ⟨true, 2, 32, .agg #[.string ⟨#[]⟩, .string ⟨#[]⟩]⟩ := by kernel_rfl
theorem zv_110 : ofV (.agg #[.string ⟨#[]⟩, .string ⟨#[]⟩]) = .ag [.v (.string ⟨#[]⟩), .v (.string ⟨#[]⟩)] := by kernel_rfl
theorem tf_110 : tflds Try.prog 110 = some [(0, 1, false), (1, 1, false)] := by kernel_rfl
theorem fl_110 : flat1 Try.prog 110 = some [.sks, .sks] := by kernel_rfl
theorem td_111 : tdat Try.prog 111 = some ⟨false, 1, 24, .slice none 0 0⟩ := by kernel_rfl
theorem zv_111 : ofV (.slice none 0 0) = .sl .full [] := by kernel_rfl
theorem tel_111 : tel Try.prog 111 = some 116 := by kernel_rfl
theorem td_113 : tdat Try.prog 113 = some ⟨true, 7, 128, .agg #[.string ⟨#[]⟩, .slice none 0 0, .slice none 0 0, .slice none 0 0, .slice none 0 0, .int .i64 0, .int .i64 0]⟩ := by kernel_rfl
theorem zv_113 : ofV (.agg #[.string ⟨#[]⟩, .slice none 0 0, .slice none 0 0, .slice none 0 0, .slice none 0 0, .int .i64 0, .int .i64 0]) = .ag [.v (.string ⟨#[]⟩), .sl .full [], .sl .full [], .sl .full [], .sl .full [], .v (.int .i64 0), .v (.int .i64 0)] := by kernel_rfl
theorem tf_113 : tflds Try.prog 113 = some [(0, 1, false), (1, 2, true), (3, 1, false), (4, 1, false), (5, 2, true)] := by kernel_rfl
theorem td_116 : tdat Try.prog 116 = some ⟨true, 12, 128, .agg #[.int .u8 0, .int .u8 0, .int .i32 0, .string ⟨#[]⟩, .slice none 0 0, .slice none 0 0, .int .i64 0, .int .i64 0, .string ⟨#[]⟩, .bool false, .int .i64 0, .int .i64 0]⟩ := by kernel_rfl
theorem zv_116 : ofV (.agg #[.int .u8 0, .int .u8 0, .int .i32 0, .string ⟨#[]⟩, .slice none 0 0, .slice none 0 0, .int .i64 0, .int .i64 0, .string ⟨#[]⟩, .bool false, .int .i64 0, .int .i64 0]) = .ag [.v (.int .u8 0), .v (.int .u8 0), .v (.int .i32 0), .v (.string ⟨#[]⟩), .sl .full [], .sl .full [], .v (.int .i64 0), .v (.int .i64 0), .v (.string ⟨#[]⟩), .v (.bool false), .v (.int .i64 0), .v (.int .i64 0)] := by kernel_rfl
theorem tf_116 : tflds Try.prog 116 = some [(0, 8, true), (8, 1, false), (9, 1, false), (10, 2, true)] := by kernel_rfl
theorem nk_118 : nkT Try.prog 118 = some .nkp := by kernel_rfl
theorem td_118 : tdat Try.prog 118 = some ⟨false, 1, 8, .pointer none⟩ := by kernel_rfl
theorem zv_118 : ofV (.pointer none) = .v (.pointer none) := by kernel_rfl
theorem td_120 : tdat Try.prog 120 = some ⟨true, 1, 8, .agg #[.int .i64 0]⟩ := by kernel_rfl
theorem zv_120 : ofV (.agg #[.int .i64 0]) = .ag [.v (.int .i64 0)] := by kernel_rfl
theorem tf_120 : tflds Try.prog 120 = some [(0, 1, false)] := by kernel_rfl
theorem fl_120 : flat1 Try.prog 120 = some [.ski] := by kernel_rfl
theorem nk_124 : nkT Try.prog 124 = some .nki := by kernel_rfl
theorem nk_125 : nkT Try.prog 125 = some .nki := by kernel_rfl
theorem td_128 : tdat Try.prog 128 = some ⟨false, 1, 24, .slice none 0 0⟩ := by kernel_rfl
theorem zv_128 : ofV (.slice none 0 0) = .sl .full [] := by kernel_rfl
theorem tel_128 : tel Try.prog 128 = some 37 := by kernel_rfl
theorem td_134 : tdat Try.prog 134 = some ⟨false, 1, 24, .slice none 0 0⟩ := by kernel_rfl
theorem zv_134 : ofV (.slice none 0 0) = .sl .full [] := by kernel_rfl
theorem tel_134 : tel Try.prog 134 = some 21 := by kernel_rfl
theorem nk_147 : nkT Try.prog 147 = some .nkp := by kernel_rfl
theorem nk_148 : nkT Try.prog 148 = some .nki := by kernel_rfl
theorem nk_151 : nkT Try.prog 151 = some .nki := by kernel_rfl
theorem nk_153 : nkT Try.prog 153 = some .nki := by kernel_rfl
theorem nk_186 : nkT Try.prog 186 = some .nkp := by kernel_rfl
theorem nk_200 : nkT Try.prog 200 = some .nkp := by kernel_rfl
set_option linter.defProp false
def tfA0 := aI @td_3 (aI @zv_3 (aI @Try.underlying3 (aI @td_4 (aI @zv_4 (aI @Try.underlying4 (aI @td_5 (aI @zv_5 (aI @Try.underlying5 (aI @td_9 (aI @zv_9 (aI @Try.underlying9 (aI @nk_15 (aI @nk_16 (aI @nk_17 (aI @nk_20 (aI @td_20 (aI @zv_20 (aI @td_21 (aI @zv_21 (aI @Try.underlying21 (aI @td_22 (aI @zv_22 (aI @tel_22 (aI @Try.underlying22 (aI @nk_24 (aI @nk_25 (aI @td_25 (aI @zv_25 @td_27))))))))))))))))))))))))))))
def tfA1 := aI @zv_27 (aI @tel_27 (aI @Try.underlying27 (aI @td_28 (aI @zv_28 (aI @tel_28 (aI @Try.underlying28 (aI @td_30 (aI @zv_30 (aI @tf_30 (aI @td_33 (aI @zv_33 (aI @tel_33 (aI @Try.underlying33 (aI @td_34 (aI @zv_34 (aI @tel_34 (aI @Try.underlying34 (aI @td_37 (aI @zv_37 (aI @tel_37 (aI @Try.underlying37 (aI @td_38 (aI @zv_38 (aI @tel_38 (aI @Try.underlying38 (aI @td_40 (aI @zv_40 (aI @tf_40 @td_42))))))))))))))))))))))))))))
def tfA2 := aI @zv_42 (aI @tf_42 (aI @fl_42 (aI @td_44 (aI @zv_44 (aI @tf_44 (aI @nk_45 (aI @td_53 (aI @zv_53 (aI @tel_53 (aI @Try.underlying53 (aI @td_54 (aI @zv_54 (aI @tel_54 (aI @Try.underlying54 (aI @td_56 (aI @zv_56 (aI @Try.underlying56 (aI @nk_58 (aI @td_58 (aI @zv_58 (aI @Try.underlying58 (aI @td_60 (aI @zv_60 (aI @tel_60 (aI @Try.underlying60 (aI @td_62 (aI @zv_62 (aI @tf_62 @td_64))))))))))))))))))))))))))))
def tfA3 := aI @zv_64 (aI @tf_64 (aI @nk_67 (aI @td_67 (aI @zv_67 (aI @Try.underlying67 (aI @td_69 (aI @zv_69 (aI @tf_69 (aI @td_71 (aI @zv_71 (aI @tf_71 (aI @nk_73 (aI @td_73 (aI @zv_73 (aI @Try.underlying73 (aI @td_75 (aI @zv_75 (aI @tf_75 (aI @td_79 (aI @zv_79 (aI @tf_79 (aI @fl_79 (aI @td_80 (aI @zv_80 (aI @tel_80 (aI @Try.underlying80 (aI @td_81 (aI @zv_81 @tel_81))))))))))))))))))))))))))))
def tfA4 := aI @Try.underlying81 (aI @td_83 (aI @zv_83 (aI @tf_83 (aI @td_85 (aI @zv_85 (aI @tf_85 (aI @td_88 (aI @zv_88 (aI @tel_88 (aI @Try.underlying88 (aI @td_90 (aI @zv_90 (aI @tf_90 (aI @td_93 (aI @zv_93 (aI @tel_93 (aI @Try.underlying93 (aI @nk_98 (aI @td_98 (aI @zv_98 (aI @Try.underlying98 (aI @td_100 (aI @zv_100 (aI @tf_100 (aI @td_105 (aI @zv_105 (aI @tf_105 (aI @td_110 @zv_110))))))))))))))))))))))))))))
def tfA5 := aI @tf_110 (aI @fl_110 (aI @td_111 (aI @zv_111 (aI @tel_111 (aI @Try.underlying111 (aI @td_113 (aI @zv_113 (aI @tf_113 (aI @td_116 (aI @zv_116 (aI @tf_116 (aI @nk_118 (aI @td_118 (aI @zv_118 (aI @Try.underlying118 (aI @td_120 (aI @zv_120 (aI @tf_120 (aI @fl_120 (aI @nk_124 (aI @nk_125 (aI @td_128 (aI @zv_128 (aI @tel_128 (aI @Try.underlying128 (aI @td_134 (aI @zv_134 (aI @tel_134 @Try.underlying134))))))))))))))))))))))))))))
def tfA6 := aI @nk_147 (aI @nk_148 (aI @nk_151 (aI @nk_153 (aI @nk_186 @nk_200))))
def tfA := aI @tfA0 (aI @tfA1 (aI @tfA2 (aI @tfA3 (aI @tfA4 (aI @tfA5 @tfA6)))))
end Go.Proofs.Ytaealemhegdmpaa
