/-
  Closed facts on the types of this seat.
-/
import Derived.Test.YtepjjgnkhcjpcaaDoorRows
import Derived.Test.YtepjjgnkhcjpcaaDoorAbFn
import Derived.KernelRfl
namespace Go.Proofs.YtepjjgnkhcjpcaaDoor
open Go Go.RowKit
theorem ok_mix : Tryd.prog.follows .mixedOrders = true := by kernel_rfl
theorem nk_1 : nkT Tryd.prog 1 = some .nkf := by kernel_rfl
theorem td_2 : tdat Tryd.prog 2 = some ⟨false, 1, 8, .int .i64 0⟩ := by kernel_rfl
theorem zv_2 : ofV (.int .i64 0) = .v (.int .i64 0) := by kernel_rfl
theorem td_3 : tdat Tryd.prog 3 = some ⟨false, 1, 8, .int .i64 0⟩ := by kernel_rfl
theorem zv_3 : ofV (.int .i64 0) = .v (.int .i64 0) := by kernel_rfl
theorem td_4 : tdat Tryd.prog 4 = some ⟨false, 1, 1, .bool false⟩ := by kernel_rfl
theorem zv_4 : ofV (.bool false) = .v (.bool false) := by kernel_rfl
theorem td_5 : tdat Tryd.prog 5 = some ⟨false, 1, 1, .int .u8 0⟩ := by kernel_rfl
theorem zv_5 : ofV (.int .u8 0) = .v (.int .u8 0) := by kernel_rfl
theorem td_6 : tdat Tryd.prog 6 = some ⟨false, 1, 1, .int .u8 0⟩ := by kernel_rfl
theorem zv_6 : ofV (.int .u8 0) = .v (.int .u8 0) := by kernel_rfl
theorem td_7 : tdat Tryd.prog 7 = some ⟨true, 4, 24, .agg #[.int .i64 0, .int .i64 0, .bool false, .int .u8 0]⟩ := by kernel_rfl
theorem zv_7 : ofV (.agg #[.int .i64 0, .int .i64 0, .bool false, .int .u8 0]) = .ag [.v (.int .i64 0), .v (.int .i64 0), .v (.bool false), .v (.int .u8 0)] := by kernel_rfl
theorem tf_7 : tflds Tryd.prog 7 = some [(0, 1, false), (1, 1, false), (2, 1, false), (3, 1, false)] := by kernel_rfl
theorem td_8 : tdat Tryd.prog 8 = some ⟨true, 4, 24, .agg #[.int .i64 0, .int .i64 0, .bool false, .int .u8 0]⟩ := by kernel_rfl
theorem zv_8 : ofV (.agg #[.int .i64 0, .int .i64 0, .bool false, .int .u8 0]) = .ag [.v (.int .i64 0), .v (.int .i64 0), .v (.bool false), .v (.int .u8 0)] := by kernel_rfl
theorem tf_8 : tflds Tryd.prog 8 = some [(0, 1, false), (1, 1, false), (2, 1, false), (3, 1, false)] := by kernel_rfl
theorem td_9 : tdat Tryd.prog 9 = some ⟨false, 1, 16, .string ⟨#[]⟩⟩ := by kernel_rfl
theorem zv_9 : ofV (.string ⟨#[]⟩) = .v (.string ⟨#[]⟩) := by kernel_rfl
theorem td_10 : tdat Tryd.prog 10 = some ⟨false, 1, 16, .string ⟨#[]⟩⟩ := by kernel_rfl
theorem zv_10 : ofV (.string ⟨#[]⟩) = .v (.string ⟨#[]⟩) := by kernel_rfl
theorem td_11 : tdat Tryd.prog 11 = some ⟨false, 1, 16, .string ⟨#[]⟩⟩ := by kernel_rfl
theorem zv_11 : ofV (.string ⟨#[]⟩) = .v (.string ⟨#[]⟩) := by kernel_rfl
theorem td_12 : tdat Tryd.prog 12 = some ⟨false, 1, 8, .int .u64 0⟩ := by kernel_rfl
theorem zv_12 : ofV (.int .u64 0) = .v (.int .u64 0) := by kernel_rfl
theorem td_13 : tdat Tryd.prog 13 = some ⟨true, 2, 24, .agg #[.string ⟨#[]⟩, .int .u64 0]⟩ := by kernel_rfl
theorem zv_13 : ofV (.agg #[.string ⟨#[]⟩, .int .u64 0]) = .ag [.v (.string ⟨#[]⟩), .v (.int .u64 0)] := by kernel_rfl
theorem tf_13 : tflds Tryd.prog 13 = some [(0, 1, false), (1, 1, false)] := by kernel_rfl
theorem td_14 : tdat Tryd.prog 14 = some ⟨true, 2, 24, .agg #[.string ⟨#[]⟩, .int .u64 0]⟩ := by kernel_rfl
theorem zv_14 : ofV (.agg #[.string ⟨#[]⟩, .int .u64 0]) = .ag [.v (.string ⟨#[]⟩), .v (.int .u64 0)] := by kernel_rfl
theorem tf_14 : tflds Tryd.prog 14 = some [(0, 1, false), (1, 1, false)] := by kernel_rfl
theorem nk_15 : nkT Tryd.prog 15 = some .nkp := by kernel_rfl
theorem td_15 : tdat Tryd.prog 15 = some ⟨false, 1, 8, .pointer none⟩ := by kernel_rfl
theorem zv_15 : ofV (.pointer none) = .v (.pointer none) := by kernel_rfl
theorem nk_16 : nkT Tryd.prog 16 = some .nkp := by kernel_rfl
theorem td_16 : tdat Tryd.prog 16 = some ⟨false, 1, 8, .pointer none⟩ := by kernel_rfl
theorem zv_16 : ofV (.pointer none) = .v (.pointer none) := by kernel_rfl
theorem nk_17 : nkT Tryd.prog 17 = some .nkp := by kernel_rfl
theorem td_17 : tdat Tryd.prog 17 = some ⟨false, 1, 8, .pointer none⟩ := by kernel_rfl
theorem zv_17 : ofV (.pointer none) = .v (.pointer none) := by kernel_rfl
theorem td_18 : tdat Tryd.prog 18 = some ⟨true, 1, 8, .agg #[.pointer none]⟩ := by kernel_rfl
theorem zv_18 : ofV (.agg #[.pointer none]) = .ag [.v (.pointer none)] := by kernel_rfl
theorem tf_18 : tflds Tryd.prog 18 = some [(0, 1, false)] := by kernel_rfl
theorem td_19 : tdat Tryd.prog 19 = some ⟨true, 1, 8, .agg #[.pointer none]⟩ := by kernel_rfl
theorem zv_19 : ofV (.agg #[.pointer none]) = .ag [.v (.pointer none)] := by kernel_rfl
theorem tf_19 : tflds Tryd.prog 19 = some [(0, 1, false)] := by kernel_rfl
theorem nk_20 : nkT Tryd.prog 20 = some .nki := by kernel_rfl
theorem td_20 : tdat Tryd.prog 20 = some ⟨false, 1, 16, .nilIface⟩ := by kernel_rfl
theorem zv_20 : ofV (.nilIface) = .v .nilIface := by kernel_rfl
theorem td_21 : tdat Tryd.prog 21 = some ⟨false, 1, 4, .int .i32 0⟩ := by kernel_rfl
theorem zv_21 : ofV (.int .i32 0) = .v (.int .i32 0) := by kernel_rfl
theorem td_22 : tdat Tryd.prog 22 = some ⟨false, 1, 24, .slice none 0 0⟩ := by kernel_rfl
theorem zv_22 : ofV (.slice none 0 0) = .sl .full [] := by kernel_rfl
theorem tel_22 : tel Tryd.prog 22 = some 5 := by kernel_rfl
theorem nk_23 : nkT Tryd.prog 23 = some .nkf := by kernel_rfl
theorem td_24 : tdat Tryd.prog 24 = some ⟨false, 1, 24, .slice none 0 0⟩ := by kernel_rfl
theorem zv_24 : ofV (.slice none 0 0) = .sl .full [] := by kernel_rfl
theorem tel_24 : tel Tryd.prog 24 = some 26 := by kernel_rfl
theorem td_25 : tdat Tryd.prog 25 = some ⟨true, 5, 48, .agg #[.int .u8 0, .int .u8 0, .int .i32 0, .string ⟨#[]⟩, .slice none 0 0]⟩ := by kernel_rfl
theorem zv_25 : ofV (.agg #[.int .u8 0, .int .u8 0, .int .i32 0, .string ⟨#[]⟩, .slice none 0 0]) = .ag [.v (.int .u8 0), .v (.int .u8 0), .v (.int .i32 0), .v (.string ⟨#[]⟩), .sl .full []] := by kernel_rfl
theorem tf_25 : tflds Tryd.prog 25 = some [(0, 1, false), (1, 1, false), (2, 1, false), (3, 1, false), (4, 1, false)] := by kernel_rfl
theorem td_26 : tdat Tryd.prog 26 = some ⟨true, 5, 48, .agg #[.int .u8 0, .int .u8 0, .int .i32 0, .string ⟨#[]⟩, .slice none 0 0]⟩ := by kernel_rfl
theorem zv_26 : ofV (.agg #[.int .u8 0, .int .u8 0, .int .i32 0, .string ⟨#[]⟩, .slice none 0 0]) = .ag [.v (.int .u8 0), .v (.int .u8 0), .v (.int .i32 0), .v (.string ⟨#[]⟩), .sl .full []] := by kernel_rfl
theorem tf_26 : tflds Tryd.prog 26 = some [(0, 1, false), (1, 1, false), (2, 1, false), (3, 1, false), (4, 1, false)] := by kernel_rfl
theorem nk_27 : nkT Tryd.prog 27 = some .nkf := by kernel_rfl
theorem nk_28 : nkT Tryd.prog 28 = some .nkp := by kernel_rfl
theorem td_28 : tdat Tryd.prog 28 = some ⟨false, 1, 8, .pointer none⟩ := by kernel_rfl
theorem zv_28 : ofV (.pointer none) = .v (.pointer none) := by kernel_rfl
theorem nk_29 : nkT Tryd.prog 29 = some .nkf := by kernel_rfl
theorem nk_30 : nkT Tryd.prog 30 = some .nkf := by kernel_rfl
theorem nk_31 : nkT Tryd.prog 31 = some .nkf := by kernel_rfl
theorem nk_32 : nkT Tryd.prog 32 = some .nkf := by kernel_rfl
theorem nk_33 : nkT Tryd.prog 33 = some .nkf := by kernel_rfl
theorem td_34 : tdat Tryd.prog 34 = some ⟨false, 1, 24, .slice none 0 0⟩ := by kernel_rfl
theorem zv_34 : ofV (.slice none 0 0) = .sl .full [] := by kernel_rfl
theorem tel_34 : tel Tryd.prog 34 = some 103 := by kernel_rfl
theorem td_35 : tdat Tryd.prog 35 = some ⟨true, 2, 40, .agg #[.string ⟨#[]⟩, .slice none 0 0]⟩ := by kernel_rfl
theorem zv_35 : ofV (.agg #[.string ⟨#[]⟩, .slice none 0 0]) = .ag [.v (.string ⟨#[]⟩), .sl .full []] := by kernel_rfl
theorem tf_35 : tflds Tryd.prog 35 = some [(0, 1, false), (1, 1, false)] := by kernel_rfl
theorem td_36 : tdat Tryd.prog 36 = some ⟨true, 2, 40, .agg #[.string ⟨#[]⟩, .slice none 0 0]⟩ := by kernel_rfl
theorem zv_36 : ofV (.agg #[.string ⟨#[]⟩, .slice none 0 0]) = .ag [.v (.string ⟨#[]⟩), .sl .full []] := by kernel_rfl
theorem tf_36 : tflds Tryd.prog 36 = some [(0, 1, false), (1, 1, false)] := by kernel_rfl
theorem td_37 : tdat Tryd.prog 37 = some ⟨false, 1, 24, .slice none 0 0⟩ := by kernel_rfl
theorem zv_37 : ofV (.slice none 0 0) = .sl .full [] := by kernel_rfl
theorem tel_37 : tel Tryd.prog 37 = some 36 := by kernel_rfl
theorem td_38 : tdat Tryd.prog 38 = some ⟨false, 1, 24, .slice none 0 0⟩ := by kernel_rfl
theorem zv_38 : ofV (.slice none 0 0) = .sl .full [] := by kernel_rfl
theorem tel_38 : tel Tryd.prog 38 = some 9 := by kernel_rfl
theorem nk_39 : nkT Tryd.prog 39 = some .nkf := by kernel_rfl
theorem td_40 : tdat Tryd.prog 40 = some ⟨false, 1, 24, .slice none 0 0⟩ := by kernel_rfl
theorem zv_40 : ofV (.slice none 0 0) = .sl .full [] := by kernel_rfl
theorem tel_40 : tel Tryd.prog 40 = some 42 := by kernel_rfl
theorem td_41 : tdat Tryd.prog 41 = some ⟨true, 12, 184, .agg #[.int .u8 0, .string ⟨#[]⟩, .string ⟨#[]⟩, .int .u8 0, .int .u8 0, .int .i32 0, .string ⟨#[]⟩, .slice none 0 0, .slice none 0 0, .slice none 0 0, .slice none 0 0, .slice none 0 0]⟩ := by kernel_rfl
theorem zv_41 : ofV (.agg #[.int .u8 0, .string ⟨#[]⟩, .string ⟨#[]⟩, .int .u8 0, .int .u8 0, .int .i32 0, .string ⟨#[]⟩, .slice none 0 0, .slice none 0 0, .slice none 0 0, .slice none 0 0, .slice none 0 0]) = .ag [.v (.int .u8 0), .v (.string ⟨#[]⟩), .v (.string ⟨#[]⟩), .v (.int .u8 0), .v (.int .u8 0), .v (.int .i32 0), .v (.string ⟨#[]⟩), .sl .full [], .sl .full [], .sl .full [], .sl .full [], .sl .full []] := by kernel_rfl
theorem tf_41 : tflds Tryd.prog 41 = some [(0, 1, false), (1, 1, false), (2, 1, false), (3, 5, true), (8, 1, false), (9, 1, false), (10, 1, false), (11, 1, false)] := by kernel_rfl
theorem td_42 : tdat Tryd.prog 42 = some ⟨true, 12, 184, .agg #[.int .u8 0, .string ⟨#[]⟩, .string ⟨#[]⟩, .int .u8 0, .int .u8 0, .int .i32 0, .string ⟨#[]⟩, .slice none 0 0, .slice none 0 0, .slice none 0 0, .slice none 0 0, .slice none 0 0]⟩ := by kernel_rfl
theorem zv_42 : ofV (.agg #[.int .u8 0, .string ⟨#[]⟩, .string ⟨#[]⟩, .int .u8 0, .int .u8 0, .int .i32 0, .string ⟨#[]⟩, .slice none 0 0, .slice none 0 0, .slice none 0 0, .slice none 0 0, .slice none 0 0]) = .ag [.v (.int .u8 0), .v (.string ⟨#[]⟩), .v (.string ⟨#[]⟩), .v (.int .u8 0), .v (.int .u8 0), .v (.int .i32 0), .v (.string ⟨#[]⟩), .sl .full [], .sl .full [], .sl .full [], .sl .full [], .sl .full []] := by kernel_rfl
theorem tf_42 : tflds Tryd.prog 42 = some [(0, 1, false), (1, 1, false), (2, 1, false), (3, 5, true), (8, 1, false), (9, 1, false), (10, 1, false), (11, 1, false)] := by kernel_rfl
theorem td_43 : tdat Tryd.prog 43 = some ⟨true, 6, 128, .agg #[.string ⟨#[]⟩, .string ⟨#[]⟩, .slice none 0 0, .slice none 0 0, .slice none 0 0, .slice none 0 0]⟩ := by kernel_rfl
theorem zv_43 : ofV (.agg #[.string ⟨#[]⟩, .string ⟨#[]⟩, .slice none 0 0, .slice none 0 0, .slice none 0 0, .slice none 0 0]) = .ag [.v (.string ⟨#[]⟩), .v (.string ⟨#[]⟩), .sl .full [], .sl .full [], .sl .full [], .sl .full []] := by kernel_rfl
theorem tf_43 : tflds Tryd.prog 43 = some [(0, 1, false), (1, 1, false), (2, 1, false), (3, 1, false), (4, 1, false), (5, 1, false)] := by kernel_rfl
theorem td_44 : tdat Tryd.prog 44 = some ⟨true, 6, 128, .agg #[.string ⟨#[]⟩, .string ⟨#[]⟩, .slice none 0 0, .slice none 0 0, .slice none 0 0, .slice none 0 0]⟩ := by kernel_rfl
theorem zv_44 : ofV (.agg #[.string ⟨#[]⟩, .string ⟨#[]⟩, .slice none 0 0, .slice none 0 0, .slice none 0 0, .slice none 0 0]) = .ag [.v (.string ⟨#[]⟩), .v (.string ⟨#[]⟩), .sl .full [], .sl .full [], .sl .full [], .sl .full []] := by kernel_rfl
theorem tf_44 : tflds Tryd.prog 44 = some [(0, 1, false), (1, 1, false), (2, 1, false), (3, 1, false), (4, 1, false), (5, 1, false)] := by kernel_rfl
theorem td_45 : tdat Tryd.prog 45 = some ⟨false, 1, 24, .slice none 0 0⟩ := by kernel_rfl
theorem zv_45 : ofV (.slice none 0 0) = .sl .full [] := by kernel_rfl
theorem tel_45 : tel Tryd.prog 45 = some 44 := by kernel_rfl
theorem td_46 : tdat Tryd.prog 46 = some ⟨true, 2, 48, .agg #[.slice none 0 0, .slice none 0 0]⟩ := by kernel_rfl
theorem zv_46 : ofV (.agg #[.slice none 0 0, .slice none 0 0]) = .ag [.sl .full [], .sl .full []] := by kernel_rfl
theorem tf_46 : tflds Tryd.prog 46 = some [(0, 1, false), (1, 1, false)] := by kernel_rfl
theorem td_47 : tdat Tryd.prog 47 = some ⟨true, 2, 48, .agg #[.slice none 0 0, .slice none 0 0]⟩ := by kernel_rfl
theorem zv_47 : ofV (.agg #[.slice none 0 0, .slice none 0 0]) = .ag [.sl .full [], .sl .full []] := by kernel_rfl
theorem tf_47 : tflds Tryd.prog 47 = some [(0, 1, false), (1, 1, false)] := by kernel_rfl
theorem nk_48 : nkT Tryd.prog 48 = some .nkp := by kernel_rfl
theorem td_48 : tdat Tryd.prog 48 = some ⟨false, 1, 8, .pointer none⟩ := by kernel_rfl
theorem zv_48 : ofV (.pointer none) = .v (.pointer none) := by kernel_rfl
theorem td_49 : tdat Tryd.prog 49 = some ⟨false, 1, 8, .int .i64 0⟩ := by kernel_rfl
theorem zv_49 : ofV (.int .i64 0) = .v (.int .i64 0) := by kernel_rfl
theorem nk_51 : nkT Tryd.prog 51 = some .nkf := by kernel_rfl
theorem td_52 : tdat Tryd.prog 52 = some ⟨false, 1, 24, .slice none 0 0⟩ := by kernel_rfl
theorem zv_52 : ofV (.slice none 0 0) = .sl .full [] := by kernel_rfl
theorem tel_52 : tel Tryd.prog 52 = some 21 := by kernel_rfl
theorem nk_54 : nkT Tryd.prog 54 = some .nkf := by kernel_rfl
theorem nk_55 : nkT Tryd.prog 55 = some .nkf := by kernel_rfl
theorem nk_56 : nkT Tryd.prog 56 = some .nkf := by kernel_rfl
theorem nk_57 : nkT Tryd.prog 57 = some .nkf := by kernel_rfl
theorem td_58 : tdat Tryd.prog 58 = some ⟨false, 1, 24, .slice none 0 0⟩ := by kernel_rfl
theorem zv_58 : ofV (.slice none 0 0) = .sl .full [] := by kernel_rfl
theorem tel_58 : tel Tryd.prog 58 = some 3 := by kernel_rfl
theorem nk_59 : nkT Tryd.prog 59 = some .nkf := by kernel_rfl
theorem td_60 : tdat Tryd.prog 60 = some ⟨false, 1, 24, .slice none 0 0⟩ := by kernel_rfl
theorem zv_60 : ofV (.slice none 0 0) = .sl .full [] := by kernel_rfl
theorem tel_60 : tel Tryd.prog 60 = some 4 := by kernel_rfl
theorem td_61 : tdat Tryd.prog 61 = some ⟨true, 4, 96, .agg #[.slice none 0 0, .slice none 0 0, .slice none 0 0, .slice none 0 0]⟩ := by kernel_rfl
theorem zv_61 : ofV (.agg #[.slice none 0 0, .slice none 0 0, .slice none 0 0, .slice none 0 0]) = .ag [.sl .full [], .sl .full [], .sl .full [], .sl .full []] := by kernel_rfl
theorem tf_61 : tflds Tryd.prog 61 = some [(0, 2, true), (2, 1, false), (3, 1, false)] := by kernel_rfl
theorem td_62 : tdat Tryd.prog 62 = some ⟨true, 4, 96, .agg #[.slice none 0 0, .slice none 0 0, .slice none 0 0, .slice none 0 0]⟩ := by kernel_rfl
theorem zv_62 : ofV (.agg #[.slice none 0 0, .slice none 0 0, .slice none 0 0, .slice none 0 0]) = .ag [.sl .full [], .sl .full [], .sl .full [], .sl .full []] := by kernel_rfl
theorem tf_62 : tflds Tryd.prog 62 = some [(0, 2, true), (2, 1, false), (3, 1, false)] := by kernel_rfl
theorem td_63 : tdat Tryd.prog 63 = some ⟨true, 1, 1, .agg #[.int .u8 0]⟩ := by kernel_rfl
theorem zv_63 : ofV (.agg #[.int .u8 0]) = .ag [.v (.int .u8 0)] := by kernel_rfl
theorem tf_63 : tflds Tryd.prog 63 = some [(0, 1, false)] := by kernel_rfl
theorem fl_63 : flat1 Tryd.prog 63 = some [.ski] := by kernel_rfl
theorem td_64 : tdat Tryd.prog 64 = some ⟨true, 1, 1, .agg #[.int .u8 0]⟩ := by kernel_rfl
theorem zv_64 : ofV (.agg #[.int .u8 0]) = .ag [.v (.int .u8 0)] := by kernel_rfl
theorem tf_64 : tflds Tryd.prog 64 = some [(0, 1, false)] := by kernel_rfl
theorem fl_64 : flat1 Tryd.prog 64 = some [.ski] := by kernel_rfl
theorem nk_65 : nkT Tryd.prog 65 = some .nkf := by kernel_rfl
theorem td_66 : tdat Tryd.prog 66 = some ⟨true, 17, 272, .agg #[.string ⟨#[]⟩, .string ⟨#[]⟩, .string ⟨#[]⟩, .string ⟨#[]⟩, .string ⟨#[]⟩, .string ⟨#[]⟩, .string ⟨#[]⟩, .string ⟨#[]⟩, .string ⟨#[]⟩, .string ⟨#[]⟩, .string ⟨#[]⟩, .string ⟨#[]⟩, .string ⟨#[]⟩, .string ⟨#[]⟩, .string ⟨#[]⟩, .string ⟨#[]⟩, .string ⟨#[]⟩]⟩ := by kernel_rfl
theorem zv_66 : ofV (.agg #[.string ⟨#[]⟩, .string ⟨#[]⟩, .string ⟨#[]⟩, .string ⟨#[]⟩, .string ⟨#[]⟩, .string ⟨#[]⟩, .string ⟨#[]⟩, .string ⟨#[]⟩, .string ⟨#[]⟩, .string ⟨#[]⟩, .string ⟨#[]⟩, .string ⟨#[]⟩, .string ⟨#[]⟩, .string ⟨#[]⟩, .string ⟨#[]⟩, .string ⟨#[]⟩, .string ⟨#[]⟩]) = .ag [.v (.string ⟨#[]⟩), .v (.string ⟨#[]⟩), .v (.string ⟨#[]⟩), .v (.string ⟨#[]⟩), .v (.string ⟨#[]⟩), .v (.string ⟨#[]⟩), .v (.string ⟨#[]⟩), .v (.string ⟨#[]⟩), .v (.string ⟨#[]⟩), .v (.string ⟨#[]⟩), .v (.string ⟨#[]⟩), .v (.string ⟨#[]⟩), .v (.string ⟨#[]⟩), .v (.string ⟨#[]⟩), .v (.string ⟨#[]⟩), .v (.string ⟨#[]⟩), .v (.string ⟨#[]⟩)] := by kernel_rfl
theorem tf_66 : tflds Tryd.prog 66 = none := by kernel_rfl
theorem tel_66 : tel Tryd.prog 66 = none := by kernel_rfl
theorem ta_66 : tarr Tryd.prog 66 = some (17, 9) := by kernel_rfl
theorem nk_67 : nkT Tryd.prog 67 = some .nkf := by kernel_rfl
theorem nk_68 : nkT Tryd.prog 68 = some .nkp := by kernel_rfl
theorem td_68 : tdat Tryd.prog 68 = some ⟨false, 1, 8, .pointer none⟩ := by kernel_rfl
theorem zv_68 : ofV (.pointer none) = .v (.pointer none) := by kernel_rfl
theorem td_69 : tdat Tryd.prog 69 = some ⟨false, 1, 8, .map none⟩ := by kernel_rfl
theorem zv_69 : ofV (.map none) = .v (.map none) := by kernel_rfl
theorem td_70 : tdat Tryd.prog 70 = some ⟨true, 11, 168, .agg #[.pointer none, .string ⟨#[]⟩, .string ⟨#[]⟩, .slice none 0 0, .slice none 0 0, .slice none 0 0, .slice none 0 0, .int .i64 0, .map none, .pointer none, .int .i64 0]⟩ := by kernel_rfl
theorem zv_70 : ofV (.agg #[.pointer none, .string ⟨#[]⟩, .string ⟨#[]⟩, .slice none 0 0, .slice none 0 0, .slice none 0 0, .slice none 0 0, .int .i64 0, .map none, .pointer none, .int .i64 0]) = .ag [.v (.pointer none), .v (.string ⟨#[]⟩), .v (.string ⟨#[]⟩), .sl .full [], .sl .full [], .sl .full [], .sl .full [], .v (.int .i64 0), .v (.map none), .v (.pointer none), .v (.int .i64 0)] := by kernel_rfl
theorem tf_70 : tflds Tryd.prog 70 = some [(0, 1, false), (1, 6, true), (7, 1, false), (8, 1, false), (9, 1, false), (10, 1, false)] := by kernel_rfl
theorem td_71 : tdat Tryd.prog 71 = some ⟨true, 11, 168, .agg #[.pointer none, .string ⟨#[]⟩, .string ⟨#[]⟩, .slice none 0 0, .slice none 0 0, .slice none 0 0, .slice none 0 0, .int .i64 0, .map none, .pointer none, .int .i64 0]⟩ := by kernel_rfl
theorem zv_71 : ofV (.agg #[.pointer none, .string ⟨#[]⟩, .string ⟨#[]⟩, .slice none 0 0, .slice none 0 0, .slice none 0 0, .slice none 0 0, .int .i64 0, .map none, .pointer none, .int .i64 0]) = .ag [.v (.pointer none), .v (.string ⟨#[]⟩), .v (.string ⟨#[]⟩), .sl .full [], .sl .full [], .sl .full [], .sl .full [], .v (.int .i64 0), .v (.map none), .v (.pointer none), .v (.int .i64 0)] := by kernel_rfl
theorem tf_71 : tflds Tryd.prog 71 = some [(0, 1, false), (1, 6, true), (7, 1, false), (8, 1, false), (9, 1, false), (10, 1, false)] := by kernel_rfl
theorem nk_72 : nkT Tryd.prog 72 = some .nkf := by kernel_rfl
theorem nk_73 : nkT Tryd.prog 73 = some .nkf := by kernel_rfl
theorem nk_74 : nkT Tryd.prog 74 = some .nkf := by kernel_rfl
theorem nk_75 : nkT Tryd.prog 75 = some .nkf := by kernel_rfl
theorem nk_76 : nkT Tryd.prog 76 = some .nkf := by kernel_rfl
theorem nk_77 : nkT Tryd.prog 77 = some .nkf := by kernel_rfl
theorem td_79 : tdat Tryd.prog 79 = some ⟨true, 24, 24, .agg #[.int .u8 0, .int .u8 0, .int .u8 0, .int .u8 0, .int .u8 0, .int .u8 0, .int .u8 0, .int .u8 0, .int .u8 0, .int .u8 0, .int .u8 0, .int .u8 0, .int .u8 0, .int .u8 0, .int .u8 0, .int .u8 0, .int .u8 0, .int .u8 0, .int .u8 0, .int .u8 0, .int .u8 0, .int .u8 0, .int .u8 0, .int .u8 0]⟩ := by kernel_rfl
theorem zv_79 : ofV (.agg #[.int .u8 0, .int .u8 0, .int .u8 0, .int .u8 0, .int .u8 0, .int .u8 0, .int .u8 0, .int .u8 0, .int .u8 0, .int .u8 0, .int .u8 0, .int .u8 0, .int .u8 0, .int .u8 0, .int .u8 0, .int .u8 0, .int .u8 0, .int .u8 0, .int .u8 0, .int .u8 0, .int .u8 0, .int .u8 0, .int .u8 0, .int .u8 0]) = .ag [.v (.int .u8 0), .v (.int .u8 0), .v (.int .u8 0), .v (.int .u8 0), .v (.int .u8 0), .v (.int .u8 0), .v (.int .u8 0), .v (.int .u8 0), .v (.int .u8 0), .v (.int .u8 0), .v (.int .u8 0), .v (.int .u8 0), .v (.int .u8 0), .v (.int .u8 0), .v (.int .u8 0), .v (.int .u8 0), .v (.int .u8 0), .v (.int .u8 0), .v (.int .u8 0), .v (.int .u8 0), .v (.int .u8 0), .v (.int .u8 0), .v (.int .u8 0), .v (.int .u8 0)] := by kernel_rfl
theorem tf_79 : tflds Tryd.prog 79 = none := by kernel_rfl
theorem tel_79 : tel Tryd.prog 79 = none := by kernel_rfl
theorem ta_79 : tarr Tryd.prog 79 = some (24, 5) := by kernel_rfl
theorem td_80 : tdat Tryd.prog 80 = some ⟨false, 1, 8, .int .u64 0⟩ := by kernel_rfl
theorem zv_80 : ofV (.int .u64 0) = .v (.int .u64 0) := by kernel_rfl
theorem nk_81 : nkT Tryd.prog 81 = some .nkf := by kernel_rfl
theorem nk_82 : nkT Tryd.prog 82 = some .nkf := by kernel_rfl
theorem nk_84 : nkT Tryd.prog 84 = some .nkf := by kernel_rfl
theorem nk_85 : nkT Tryd.prog 85 = some .nkf := by kernel_rfl
theorem nk_86 : nkT Tryd.prog 86 = some .nkf := by kernel_rfl
theorem nk_87 : nkT Tryd.prog 87 = some .nkf := by kernel_rfl
theorem nk_88 : nkT Tryd.prog 88 = some .nkf := by kernel_rfl
theorem td_89 : tdat Tryd.prog 89 = some ⟨true, 20, 160, .agg #[.int .u64 0, .int .u64 0, .int .u64 0, .int .u64 0, .int .u64 0, .int .u64 0, .int .u64 0, .int .u64 0, .int .u64 0, .int .u64 0, .int .u64 0, .int .u64 0, .int .u64 0, .int .u64 0, .int .u64 0, .int .u64 0, .int .u64 0, .int .u64 0, .int .u64 0, .int .u64 0]⟩ := by kernel_rfl
theorem zv_89 : ofV (.agg #[.int .u64 0, .int .u64 0, .int .u64 0, .int .u64 0, .int .u64 0, .int .u64 0, .int .u64 0, .int .u64 0, .int .u64 0, .int .u64 0, .int .u64 0, .int .u64 0, .int .u64 0, .int .u64 0, .int .u64 0, .int .u64 0, .int .u64 0, .int .u64 0, .int .u64 0, .int .u64 0]) = .ag [.v (.int .u64 0), .v (.int .u64 0), .v (.int .u64 0), .v (.int .u64 0), .v (.int .u64 0), .v (.int .u64 0), .v (.int .u64 0), .v (.int .u64 0), .v (.int .u64 0), .v (.int .u64 0), .v (.int .u64 0), .v (.int .u64 0), .v (.int .u64 0), .v (.int .u64 0), .v (.int .u64 0), .v (.int .u64 0), .v (.int .u64 0), .v (.int .u64 0), .v (.int .u64 0), .v (.int .u64 0)] := by kernel_rfl
theorem tf_89 : tflds Tryd.prog 89 = none := by kernel_rfl
theorem tel_89 : tel Tryd.prog 89 = none := by kernel_rfl
theorem ta_89 : tarr Tryd.prog 89 = some (20, 80) := by kernel_rfl
theorem td_90 : tdat Tryd.prog 90 = some ⟨false, 1, 4, .int .u32 0⟩ := by kernel_rfl
theorem zv_90 : ofV (.int .u32 0) = .v (.int .u32 0) := by kernel_rfl
theorem td_91 : tdat Tryd.prog 91 = some ⟨true, 65, 65, .agg #[.int .u8 0, .int .u8 0, .int .u8 0, .int .u8 0, .int .u8 0, .int .u8 0, .int .u8 0, .int .u8 0, .int .u8 0, .int .u8 0, .int .u8 0, .int .u8 0, .int .u8 0, .int .u8 0, .int .u8 0, .int .u8 0, .int .u8 0, .int .u8 0, .int .u8 0, .int .u8 0, .int .u8 0, .int .u8 0, .int .u8 0, .int .u8 0, .int .u8 0, .int .u8 0, .int .u8 0, .int .u8 0, .int .u8 0, .int .u8 0, .int .u8 0, .int .u8 0, .int .u8 0, .int .u8 0, .int .u8 0, .int .u8 0, .int .u8 0, .int .u8 0, .int .u8 0, .int .u8 0, .int .u8 0, .int .u8 0, .int .u8 0, .int .u8 0, .int .u8 0, .int .u8 0, .int .u8 0, .int .u8 0, .int .u8 0, .int .u8 0, .int .u8 0, .int .u8 0, .int .u8 0, .int .u8 0, .int .u8 0, .int .u8 0, .int .u8 0, .int .u8 0, .int .u8 0, .int .u8 0, .int .u8 0, .int .u8 0, .int .u8 0, .int .u8 0, .int .u8 0]⟩ := by kernel_rfl
theorem zv_91 : ofV (.agg #[.int .u8 0, .int .u8 0, .int .u8 0, .int .u8 0, .int .u8 0, .int .u8 0, .int .u8 0, .int .u8 0, .int .u8 0, .int .u8 0, .int .u8 0, .int .u8 0, .int .u8 0, .int .u8 0, .int .u8 0, .int .u8 0, .int .u8 0, .int .u8 0, .int .u8 0, .int .u8 0, .int .u8 0, .int .u8 0, .int .u8 0, .int .u8 0, .int .u8 0, .int .u8 0, .int .u8 0, .int .u8 0, .int .u8 0, .int .u8 0, .int .u8 0, .int .u8 0, .int .u8 0, .int .u8 0, .int .u8 0, .int .u8 0, .int .u8 0, .int .u8 0, .int .u8 0, .int .u8 0, .int .u8 0, .int .u8 0, .int .u8 0, .int .u8 0, .int .u8 0, .int .u8 0, .int .u8 0, .int .u8 0, .int .u8 0, .int .u8 0, .int .u8 0, .int .u8 0, .int .u8 0, .int .u8 0, .int .u8 0, .int .u8 0, .int .u8 0, .int .u8 0, .int .u8 0, .int .u8 0, .int .u8 0, .int .u8 0, .int .u8 0, .int .u8 0, .int .u8 0]) = .ag [.v (.int .u8 0), .v (.int .u8 0), .v (.int .u8 0), .v (.int .u8 0), .v (.int .u8 0), .v (.int .u8 0), .v (.int .u8 0), .v (.int .u8 0), .v (.int .u8 0), .v (.int .u8 0), .v (.int .u8 0), .v (.int .u8 0), .v (.int .u8 0), .v (.int .u8 0), .v (.int .u8 0), .v (.int .u8 0), .v (.int .u8 0), .v (.int .u8 0), .v (.int .u8 0), .v (.int .u8 0), .v (.int .u8 0), .v (.int .u8 0), .v (.int .u8 0), .v (.int .u8 0), .v (.int .u8 0), .v (.int .u8 0), .v (.int .u8 0), .v (.int .u8 0), .v (.int .u8 0), .v (.int .u8 0), .v (.int .u8 0), .v (.int .u8 0), .v (.int .u8 0), .v (.int .u8 0), .v (.int .u8 0), .v (.int .u8 0), .v (.int .u8 0), .v (.int .u8 0), .v (.int .u8 0), .v (.int .u8 0), .v (.int .u8 0), .v (.int .u8 0), .v (.int .u8 0), .v (.int .u8 0), .v (.int .u8 0), .v (.int .u8 0), .v (.int .u8 0), .v (.int .u8 0), .v (.int .u8 0), .v (.int .u8 0), .v (.int .u8 0), .v (.int .u8 0), .v (.int .u8 0), .v (.int .u8 0), .v (.int .u8 0), .v (.int .u8 0), .v (.int .u8 0), .v (.int .u8 0), .v (.int .u8 0), .v (.int .u8 0), .v (.int .u8 0), .v (.int .u8 0), .v (.int .u8 0), .v (.int .u8 0), .v (.int .u8 0)] := by kernel_rfl
theorem tf_91 : tflds Tryd.prog 91 = none := by kernel_rfl
theorem tel_91 : tel Tryd.prog 91 = none := by kernel_rfl
theorem ta_91 : tarr Tryd.prog 91 = some (65, 5) := by kernel_rfl
theorem nk_92 : nkT Tryd.prog 92 = some .nkf := by kernel_rfl
theorem td_93 : tdat Tryd.prog 93 = some ⟨false, 1, 8, .int .u64 0⟩ := by kernel_rfl
theorem zv_93 : ofV (.int .u64 0) = .v (.int .u64 0) := by kernel_rfl
theorem nk_94 : nkT Tryd.prog 94 = some .nkf := by kernel_rfl
theorem td_95 : tdat Tryd.prog 95 = some ⟨true, 7, 56, .agg #[.int .i64 0, .int .i64 0, .int .i64 0, .int .i64 0, .int .i64 0, .int .i64 0, .int .i64 0]⟩ := by kernel_rfl
theorem zv_95 : ofV (.agg #[.int .i64 0, .int .i64 0, .int .i64 0, .int .i64 0, .int .i64 0, .int .i64 0, .int .i64 0]) = .ag [.v (.int .i64 0), .v (.int .i64 0), .v (.int .i64 0), .v (.int .i64 0), .v (.int .i64 0), .v (.int .i64 0), .v (.int .i64 0)] := by kernel_rfl
theorem tf_95 : tflds Tryd.prog 95 = none := by kernel_rfl
theorem tel_95 : tel Tryd.prog 95 = none := by kernel_rfl
theorem ta_95 : tarr Tryd.prog 95 = some (7, 3) := by kernel_rfl
theorem nk_96 : nkT Tryd.prog 96 = some .nkf := by kernel_rfl
theorem nk_97 : nkT Tryd.prog 97 = some .nkf := by kernel_rfl
theorem nk_99 : nkT Tryd.prog 99 = some .nkf := by kernel_rfl
theorem nk_100 : nkT Tryd.prog 100 = some .nkf := by kernel_rfl
theorem nk_101 : nkT Tryd.prog 101 = some .nkf := by kernel_rfl
theorem td_102 : tdat Tryd.prog 102 = some ⟨true, 2, 32, .agg #[.string ⟨#[]⟩, .string ⟨#[]⟩]⟩ := by kernel_rfl
theorem zv_102 : ofV (.agg #[.string ⟨#[]⟩, .string ⟨#[]⟩]) = .ag [.v (.string ⟨#[]⟩), .v (.string ⟨#[]⟩)] := by kernel_rfl
theorem tf_102 : tflds Tryd.prog 102 = some [(0, 1, false), (1, 1, false)] := by kernel_rfl
theorem fl_102 : flat1 Tryd.prog 102 = some [.sks, .sks] := by kernel_rfl
theorem td_103 : tdat Tryd.prog 103 = some ⟨true, 2, 32, .agg #[.string ⟨#[]⟩, .string ⟨#[]⟩]⟩ := by kernel_rfl
theorem zv_103 : ofV (.agg #[.string ⟨#[]⟩, .string ⟨#[]⟩]) = .ag [.v (.string ⟨#[]⟩), .v (.string ⟨#[]⟩)] := by kernel_rfl
theorem tf_103 : tflds Tryd.prog 103 = some [(0, 1, false), (1, 1, false)] := by kernel_rfl
theorem fl_103 : flat1 Tryd.prog 103 = some [.sks, .sks] := by kernel_rfl
theorem td_104 : tdat Tryd.prog 104 = some ⟨true, 32, 32, .agg #[.int .u8 0, .int .u8 0, .int .u8 0, .int .u8 0, .int .u8 0, .int .u8 0, .int .u8 0, .int .u8 0, .int .u8 0, .int .u8 0, .int .u8 0, .int .u8 0, .int .u8 0, .int .u8 0, .int .u8 0, .int .u8 0, .int .u8 0, .int .u8 0, .int .u8 0, .int .u8 0, .int .u8 0, .int .u8 0, .int .u8 0, .int .u8 0, .int .u8 0, .int .u8 0, .int .u8 0, .int .u8 0, .int .u8 0, .int .u8 0, .int .u8 0, .int .u8 0]⟩ := by kernel_rfl
theorem zv_104 : ofV (.agg #[.int .u8 0, .int .u8 0, .int .u8 0, .int .u8 0, .int .u8 0, .int .u8 0, .int .u8 0, .int .u8 0, .int .u8 0, .int .u8 0, .int .u8 0, .int .u8 0, .int .u8 0, .int .u8 0, .int .u8 0, .int .u8 0, .int .u8 0, .int .u8 0, .int .u8 0, .int .u8 0, .int .u8 0, .int .u8 0, .int .u8 0, .int .u8 0, .int .u8 0, .int .u8 0, .int .u8 0, .int .u8 0, .int .u8 0, .int .u8 0, .int .u8 0, .int .u8 0]) = .ag [.v (.int .u8 0), .v (.int .u8 0), .v (.int .u8 0), .v (.int .u8 0), .v (.int .u8 0), .v (.int .u8 0), .v (.int .u8 0), .v (.int .u8 0), .v (.int .u8 0), .v (.int .u8 0), .v (.int .u8 0), .v (.int .u8 0), .v (.int .u8 0), .v (.int .u8 0), .v (.int .u8 0), .v (.int .u8 0), .v (.int .u8 0), .v (.int .u8 0), .v (.int .u8 0), .v (.int .u8 0), .v (.int .u8 0), .v (.int .u8 0), .v (.int .u8 0), .v (.int .u8 0), .v (.int .u8 0), .v (.int .u8 0), .v (.int .u8 0), .v (.int .u8 0), .v (.int .u8 0), .v (.int .u8 0), .v (.int .u8 0), .v (.int .u8 0)] := by kernel_rfl
theorem tf_104 : tflds Tryd.prog 104 = none := by kernel_rfl
theorem tel_104 : tel Tryd.prog 104 = none := by kernel_rfl
theorem ta_104 : tarr Tryd.prog 104 = some (32, 5) := by kernel_rfl
theorem td_105 : tdat Tryd.prog 105 = some ⟨true, 64, 64, .agg #[.int .u8 0, .int .u8 0, .int .u8 0, .int .u8 0, .int .u8 0, .int .u8 0, .int .u8 0, .int .u8 0, .int .u8 0, .int .u8 0, .int .u8 0, .int .u8 0, .int .u8 0, .int .u8 0, .int .u8 0, .int .u8 0, .int .u8 0, .int .u8 0, .int .u8 0, .int .u8 0, .int .u8 0, .int .u8 0, .int .u8 0, .int .u8 0, .int .u8 0, .int .u8 0, .int .u8 0, .int .u8 0, .int .u8 0, .int .u8 0, .int .u8 0, .int .u8 0, .int .u8 0, .int .u8 0, .int .u8 0, .int .u8 0, .int .u8 0, .int .u8 0, .int .u8 0, .int .u8 0, .int .u8 0, .int .u8 0, .int .u8 0, .int .u8 0, .int .u8 0, .int .u8 0, .int .u8 0, .int .u8 0, .int .u8 0, .int .u8 0, .int .u8 0, .int .u8 0, .int .u8 0, .int .u8 0, .int .u8 0, .int .u8 0, .int .u8 0, .int .u8 0, .int .u8 0, .int .u8 0, .int .u8 0, .int .u8 0, .int .u8 0, .int .u8 0]⟩ := by kernel_rfl
theorem zv_105 : ofV (.agg #[.int .u8 0, .int .u8 0, .int .u8 0, .int .u8 0, .int .u8 0, .int .u8 0, .int .u8 0, .int .u8 0, .int .u8 0, .int .u8 0, .int .u8 0, .int .u8 0, .int .u8 0, .int .u8 0, .int .u8 0, .int .u8 0, .int .u8 0, .int .u8 0, .int .u8 0, .int .u8 0, .int .u8 0, .int .u8 0, .int .u8 0, .int .u8 0, .int .u8 0, .int .u8 0, .int .u8 0, .int .u8 0, .int .u8 0, .int .u8 0, .int .u8 0, .int .u8 0, .int .u8 0, .int .u8 0, .int .u8 0, .int .u8 0, .int .u8 0, .int .u8 0, .int .u8 0, .int .u8 0, .int .u8 0, .int .u8 0, .int .u8 0, .int .u8 0, .int .u8 0, .int .u8 0, .int .u8 0, .int .u8 0, .int .u8 0, .int .u8 0, .int .u8 0, .int .u8 0, .int .u8 0, .int .u8 0, .int .u8 0, .int .u8 0, .int .u8 0, .int .u8 0, .int .u8 0, .int .u8 0, .int .u8 0, .int .u8 0, .int .u8 0, .int .u8 0]) = .ag [.v (.int .u8 0), .v (.int .u8 0), .v (.int .u8 0), .v (.int .u8 0), .v (.int .u8 0), .v (.int .u8 0), .v (.int .u8 0), .v (.int .u8 0), .v (.int .u8 0), .v (.int .u8 0), .v (.int .u8 0), .v (.int .u8 0), .v (.int .u8 0), .v (.int .u8 0), .v (.int .u8 0), .v (.int .u8 0), .v (.int .u8 0), .v (.int .u8 0), .v (.int .u8 0), .v (.int .u8 0), .v (.int .u8 0), .v (.int .u8 0), .v (.int .u8 0), .v (.int .u8 0), .v (.int .u8 0), .v (.int .u8 0), .v (.int .u8 0), .v (.int .u8 0), .v (.int .u8 0), .v (.int .u8 0), .v (.int .u8 0), .v (.int .u8 0), .v (.int .u8 0), .v (.int .u8 0), .v (.int .u8 0), .v (.int .u8 0), .v (.int .u8 0), .v (.int .u8 0), .v (.int .u8 0), .v (.int .u8 0), .v (.int .u8 0), .v (.int .u8 0), .v (.int .u8 0), .v (.int .u8 0), .v (.int .u8 0), .v (.int .u8 0), .v (.int .u8 0), .v (.int .u8 0), .v (.int .u8 0), .v (.int .u8 0), .v (.int .u8 0), .v (.int .u8 0), .v (.int .u8 0), .v (.int .u8 0), .v (.int .u8 0), .v (.int .u8 0), .v (.int .u8 0), .v (.int .u8 0), .v (.int .u8 0), .v (.int .u8 0), .v (.int .u8 0), .v (.int .u8 0), .v (.int .u8 0), .v (.int .u8 0)] := by kernel_rfl
theorem tf_105 : tflds Tryd.prog 105 = none := by kernel_rfl
theorem tel_105 : tel Tryd.prog 105 = none := by kernel_rfl
theorem ta_105 : tarr Tryd.prog 105 = some (64, 5) := by kernel_rfl
theorem nk_106 : nkT Tryd.prog 106 = some .nkf := by kernel_rfl
theorem nk_107 : nkT Tryd.prog 107 = some .nkf := by kernel_rfl
theorem nk_108 : nkT Tryd.prog 108 = some .nkf := by kernel_rfl
theorem nk_109 : nkT Tryd.prog 109 = some .nkf := by kernel_rfl
theorem td_110 : tdat Tryd.prog 110 = some ⟨true, 4, 40, .agg #[.pointer none, .pointer none, .pointer none, .string ⟨#[]⟩]⟩ := by kernel_rfl
theorem zv_110 : ofV (.agg #[.pointer none, .pointer none, .pointer none, .string ⟨#[]⟩]) = .ag [.v (.pointer none), .v (.pointer none), .v (.pointer none), .v (.string ⟨#[]⟩)] := by kernel_rfl
theorem tf_110 : tflds Tryd.prog 110 = some [(0, 1, false), (1, 1, false), (2, 1, false), (3, 1, false)] := by kernel_rfl
theorem td_111 : tdat Tryd.prog 111 = some ⟨true, 4, 40, .agg #[.pointer none, .pointer none, .pointer none, .string ⟨#[]⟩]⟩ := by kernel_rfl
theorem zv_111 : ofV (.agg #[.pointer none, .pointer none, .pointer none, .string ⟨#[]⟩]) = .ag [.v (.pointer none), .v (.pointer none), .v (.pointer none), .v (.string ⟨#[]⟩)] := by kernel_rfl
theorem tf_111 : tflds Tryd.prog 111 = some [(0, 1, false), (1, 1, false), (2, 1, false), (3, 1, false)] := by kernel_rfl
theorem td_112 : tdat Tryd.prog 112 = some ⟨true, 0, 0, .agg #[]⟩ := by kernel_rfl
theorem zv_112 : ofV (.agg #[]) = .ag [] := by kernel_rfl
theorem tf_112 : tflds Tryd.prog 112 = none := by kernel_rfl
theorem tel_112 : tel Tryd.prog 112 = none := by kernel_rfl
theorem ta_112 : tarr Tryd.prog 112 = some (0, 16) := by kernel_rfl
theorem td_113 : tdat Tryd.prog 113 = some ⟨true, 0, 0, .agg #[]⟩ := by kernel_rfl
theorem zv_113 : ofV (.agg #[]) = .ag [] := by kernel_rfl
theorem tf_113 : tflds Tryd.prog 113 = some [(0, 0, true)] := by kernel_rfl
theorem td_114 : tdat Tryd.prog 114 = some ⟨true, 0, 0, .agg #[]⟩ := by kernel_rfl
theorem zv_114 : ofV (.agg #[]) = .ag [] := by kernel_rfl
theorem tf_114 : tflds Tryd.prog 114 = some [(0, 0, true)] := by kernel_rfl
theorem nk_115 : nkT Tryd.prog 115 = some .nkf := by kernel_rfl
theorem td_116 : tdat Tryd.prog 116 = some ⟨false, 1, 1, .int .u8 0⟩ := by kernel_rfl
theorem zv_116 : ofV (.int .u8 0) = .v (.int .u8 0) := by kernel_rfl
theorem td_117 : tdat Tryd.prog 117 = some ⟨false, 1, 1, .int .u8 0⟩ := by kernel_rfl
theorem zv_117 : ofV (.int .u8 0) = .v (.int .u8 0) := by kernel_rfl
theorem nk_118 : nkT Tryd.prog 118 = some .nkf := by kernel_rfl
theorem nk_119 : nkT Tryd.prog 119 = some .nkp := by kernel_rfl
theorem td_119 : tdat Tryd.prog 119 = some ⟨false, 1, 8, .pointer none⟩ := by kernel_rfl
theorem zv_119 : ofV (.pointer none) = .v (.pointer none) := by kernel_rfl
theorem td_120 : tdat Tryd.prog 120 = some ⟨false, 1, 4, .int .i32 0⟩ := by kernel_rfl
theorem zv_120 : ofV (.int .i32 0) = .v (.int .i32 0) := by kernel_rfl
theorem td_121 : tdat Tryd.prog 121 = some ⟨false, 1, 4, .int .i32 0⟩ := by kernel_rfl
theorem zv_121 : ofV (.int .i32 0) = .v (.int .i32 0) := by kernel_rfl
theorem td_122 : tdat Tryd.prog 122 = some ⟨true, 11, 48, .agg #[.int .u64 0, .int .u64 0, .int .u32 0, .int .u8 0, .int .u8 0, .int .u8 0, .int .u8 0, .nilFunc, .pointer none, .int .i32 0, .int .i32 0]⟩ := by kernel_rfl
theorem zv_122 : ofV (.agg #[.int .u64 0, .int .u64 0, .int .u32 0, .int .u8 0, .int .u8 0, .int .u8 0, .int .u8 0, .nilFunc, .pointer none, .int .i32 0, .int .i32 0]) = .ag [.v (.int .u64 0), .v (.int .u64 0), .v (.int .u32 0), .v (.int .u8 0), .v (.int .u8 0), .v (.int .u8 0), .v (.int .u8 0), .v .nilFunc, .v (.pointer none), .v (.int .i32 0), .v (.int .i32 0)] := by kernel_rfl
theorem tf_122 : tflds Tryd.prog 122 = some [(0, 1, false), (1, 1, false), (2, 1, false), (3, 1, false), (4, 1, false), (5, 1, false), (6, 1, false), (7, 1, false), (8, 1, false), (9, 1, false), (10, 1, false)] := by kernel_rfl
theorem td_123 : tdat Tryd.prog 123 = some ⟨true, 11, 48, .agg #[.int .u64 0, .int .u64 0, .int .u32 0, .int .u8 0, .int .u8 0, .int .u8 0, .int .u8 0, .nilFunc, .pointer none, .int .i32 0, .int .i32 0]⟩ := by kernel_rfl
theorem zv_123 : ofV (.agg #[.int .u64 0, .int .u64 0, .int .u32 0, .int .u8 0, .int .u8 0, .int .u8 0, .int .u8 0, .nilFunc, .pointer none, .int .i32 0, .int .i32 0]) = .ag [.v (.int .u64 0), .v (.int .u64 0), .v (.int .u32 0), .v (.int .u8 0), .v (.int .u8 0), .v (.int .u8 0), .v (.int .u8 0), .v .nilFunc, .v (.pointer none), .v (.int .i32 0), .v (.int .i32 0)] := by kernel_rfl
theorem tf_123 : tflds Tryd.prog 123 = some [(0, 1, false), (1, 1, false), (2, 1, false), (3, 1, false), (4, 1, false), (5, 1, false), (6, 1, false), (7, 1, false), (8, 1, false), (9, 1, false), (10, 1, false)] := by kernel_rfl
theorem nk_124 : nkT Tryd.prog 124 = some .nkf := by kernel_rfl
theorem td_125 : tdat Tryd.prog 125 = some ⟨false, 1, 8, .pointer none⟩ := by kernel_rfl
theorem zv_125 : ofV (.pointer none) = .v (.pointer none) := by kernel_rfl
set_option linter.defProp false
def tfA0 := And.intro @nk_1 (And.intro @td_2 (And.intro @zv_2 (And.intro @Tryd.underlying2 (And.intro @td_3 (And.intro @zv_3 (And.intro @Tryd.underlying3 (And.intro @td_4 (And.intro @zv_4 (And.intro @Tryd.underlying4 (And.intro @td_5 (And.intro @zv_5 (And.intro @Tryd.underlying5 (And.intro @td_6 (And.intro @zv_6 (And.intro @Tryd.underlying6 (And.intro @td_7 (And.intro @zv_7 (And.intro @tf_7 (And.intro @td_8 (And.intro @zv_8 (And.intro @tf_8 (And.intro @td_9 (And.intro @zv_9 (And.intro @Tryd.underlying9 (And.intro @td_10 (And.intro @zv_10 (And.intro @Tryd.underlying10 (And.intro @td_11 @zv_11))))))))))))))))))))))))))))
def tfA1 := And.intro @Tryd.underlying11 (And.intro @td_12 (And.intro @zv_12 (And.intro @Tryd.underlying12 (And.intro @td_13 (And.intro @zv_13 (And.intro @tf_13 (And.intro @td_14 (And.intro @zv_14 (And.intro @tf_14 (And.intro @nk_15 (And.intro @td_15 (And.intro @zv_15 (And.intro @Tryd.underlying15 (And.intro @nk_16 (And.intro @td_16 (And.intro @zv_16 (And.intro @Tryd.underlying16 (And.intro @nk_17 (And.intro @td_17 (And.intro @zv_17 (And.intro @Tryd.underlying17 (And.intro @td_18 (And.intro @zv_18 (And.intro @tf_18 (And.intro @td_19 (And.intro @zv_19 (And.intro @tf_19 (And.intro @nk_20 @td_20))))))))))))))))))))))))))))
def tfA2 := And.intro @zv_20 (And.intro @td_21 (And.intro @zv_21 (And.intro @Tryd.underlying21 (And.intro @td_22 (And.intro @zv_22 (And.intro @tel_22 (And.intro @Tryd.underlying22 (And.intro @nk_23 (And.intro @td_24 (And.intro @zv_24 (And.intro @tel_24 (And.intro @Tryd.underlying24 (And.intro @td_25 (And.intro @zv_25 (And.intro @tf_25 (And.intro @td_26 (And.intro @zv_26 (And.intro @tf_26 (And.intro @nk_27 (And.intro @nk_28 (And.intro @td_28 (And.intro @zv_28 (And.intro @Tryd.underlying28 (And.intro @nk_29 (And.intro @nk_30 (And.intro @nk_31 (And.intro @nk_32 (And.intro @nk_33 @td_34))))))))))))))))))))))))))))
def tfA3 := And.intro @zv_34 (And.intro @tel_34 (And.intro @Tryd.underlying34 (And.intro @td_35 (And.intro @zv_35 (And.intro @tf_35 (And.intro @td_36 (And.intro @zv_36 (And.intro @tf_36 (And.intro @td_37 (And.intro @zv_37 (And.intro @tel_37 (And.intro @Tryd.underlying37 (And.intro @td_38 (And.intro @zv_38 (And.intro @tel_38 (And.intro @Tryd.underlying38 (And.intro @nk_39 (And.intro @td_40 (And.intro @zv_40 (And.intro @tel_40 (And.intro @Tryd.underlying40 (And.intro @td_41 (And.intro @zv_41 (And.intro @tf_41 (And.intro @td_42 (And.intro @zv_42 (And.intro @tf_42 (And.intro @td_43 @zv_43))))))))))))))))))))))))))))
def tfA4 := And.intro @tf_43 (And.intro @td_44 (And.intro @zv_44 (And.intro @tf_44 (And.intro @td_45 (And.intro @zv_45 (And.intro @tel_45 (And.intro @Tryd.underlying45 (And.intro @td_46 (And.intro @zv_46 (And.intro @tf_46 (And.intro @td_47 (And.intro @zv_47 (And.intro @tf_47 (And.intro @nk_48 (And.intro @td_48 (And.intro @zv_48 (And.intro @Tryd.underlying48 (And.intro @td_49 (And.intro @zv_49 (And.intro @Tryd.underlying49 (And.intro @nk_51 (And.intro @td_52 (And.intro @zv_52 (And.intro @tel_52 (And.intro @Tryd.underlying52 (And.intro @nk_54 (And.intro @nk_55 (And.intro @nk_56 @nk_57))))))))))))))))))))))))))))
def tfA5 := And.intro @td_58 (And.intro @zv_58 (And.intro @tel_58 (And.intro @Tryd.underlying58 (And.intro @nk_59 (And.intro @td_60 (And.intro @zv_60 (And.intro @tel_60 (And.intro @Tryd.underlying60 (And.intro @td_61 (And.intro @zv_61 (And.intro @tf_61 (And.intro @td_62 (And.intro @zv_62 (And.intro @tf_62 (And.intro @td_63 (And.intro @zv_63 (And.intro @tf_63 (And.intro @fl_63 (And.intro @td_64 (And.intro @zv_64 (And.intro @tf_64 (And.intro @fl_64 (And.intro @nk_65 (And.intro @td_66 (And.intro @zv_66 (And.intro @tf_66 (And.intro @tel_66 (And.intro @ta_66 @Tryd.underlying66))))))))))))))))))))))))))))
def tfA6 := And.intro @nk_67 (And.intro @nk_68 (And.intro @td_68 (And.intro @zv_68 (And.intro @Tryd.underlying68 (And.intro @td_69 (And.intro @zv_69 (And.intro @td_70 (And.intro @zv_70 (And.intro @tf_70 (And.intro @td_71 (And.intro @zv_71 (And.intro @tf_71 (And.intro @nk_72 (And.intro @nk_73 (And.intro @nk_74 (And.intro @nk_75 (And.intro @nk_76 (And.intro @nk_77 (And.intro @td_79 (And.intro @zv_79 (And.intro @tf_79 (And.intro @tel_79 (And.intro @ta_79 (And.intro @Tryd.underlying79 (And.intro @td_80 (And.intro @zv_80 (And.intro @Tryd.underlying80 (And.intro @nk_81 @nk_82))))))))))))))))))))))))))))
def tfA7 := And.intro @nk_84 (And.intro @nk_85 (And.intro @nk_86 (And.intro @nk_87 (And.intro @nk_88 (And.intro @td_89 (And.intro @zv_89 (And.intro @tf_89 (And.intro @tel_89 (And.intro @ta_89 (And.intro @Tryd.underlying89 (And.intro @td_90 (And.intro @zv_90 (And.intro @Tryd.underlying90 (And.intro @td_91 (And.intro @zv_91 (And.intro @tf_91 (And.intro @tel_91 (And.intro @ta_91 (And.intro @Tryd.underlying91 (And.intro @nk_92 (And.intro @td_93 (And.intro @zv_93 (And.intro @Tryd.underlying93 (And.intro @nk_94 (And.intro @td_95 (And.intro @zv_95 (And.intro @tf_95 (And.intro @tel_95 @ta_95))))))))))))))))))))))))))))
def tfA8 := And.intro @Tryd.underlying95 (And.intro @nk_96 (And.intro @nk_97 (And.intro @nk_99 (And.intro @nk_100 (And.intro @nk_101 (And.intro @td_102 (And.intro @zv_102 (And.intro @tf_102 (And.intro @fl_102 (And.intro @td_103 (And.intro @zv_103 (And.intro @tf_103 (And.intro @fl_103 (And.intro @td_104 (And.intro @zv_104 (And.intro @tf_104 (And.intro @tel_104 (And.intro @ta_104 (And.intro @Tryd.underlying104 (And.intro @td_105 (And.intro @zv_105 (And.intro @tf_105 (And.intro @tel_105 (And.intro @ta_105 (And.intro @Tryd.underlying105 (And.intro @nk_106 (And.intro @nk_107 (And.intro @nk_108 @nk_109))))))))))))))))))))))))))))
def tfA9 := And.intro @td_110 (And.intro @zv_110 (And.intro @tf_110 (And.intro @td_111 (And.intro @zv_111 (And.intro @tf_111 (And.intro @td_112 (And.intro @zv_112 (And.intro @tf_112 (And.intro @tel_112 (And.intro @ta_112 (And.intro @Tryd.underlying112 (And.intro @td_113 (And.intro @zv_113 (And.intro @tf_113 (And.intro @td_114 (And.intro @zv_114 (And.intro @tf_114 (And.intro @nk_115 (And.intro @td_116 (And.intro @zv_116 (And.intro @Tryd.underlying116 (And.intro @td_117 (And.intro @zv_117 (And.intro @Tryd.underlying117 (And.intro @nk_118 (And.intro @nk_119 (And.intro @td_119 (And.intro @zv_119 @Tryd.underlying119))))))))))))))))))))))))))))
def tfA10 := And.intro @td_120 (And.intro @zv_120 (And.intro @Tryd.underlying120 (And.intro @td_121 (And.intro @zv_121 (And.intro @Tryd.underlying121 (And.intro @td_122 (And.intro @zv_122 (And.intro @tf_122 (And.intro @td_123 (And.intro @zv_123 (And.intro @tf_123 (And.intro @nk_124 (And.intro @td_125 @zv_125)))))))))))))
def tfA := And.intro @tfA0 (And.intro @tfA1 (And.intro @tfA2 (And.intro @tfA3 (And.intro @tfA4 (And.intro @tfA5 (And.intro @tfA6 (And.intro @tfA7 (And.intro @tfA8 (And.intro @tfA9 @tfA10)))))))))
end Go.Proofs.YtepjjgnkhcjpcaaDoor
