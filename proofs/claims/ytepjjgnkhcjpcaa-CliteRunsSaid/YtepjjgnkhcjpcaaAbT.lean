/-
  Closed facts on the types of this seat.
-/
import Derived.Test.YtepjjgnkhcjpcaaRows
import Derived.Test.YtepjjgnkhcjpcaaAbFn
import Derived.KernelRfl
namespace Go.Proofs.Ytepjjgnkhcjpcaa
open Go Go.RowKit
theorem ok_mix : Try.prog.follows .mixedOrders = true := by kernel_rfl
theorem nk_1 : nkT Try.prog 1 = some .nkf := by kernel_rfl
theorem td_2 : tdat Try.prog 2 = some ⟨false, 1, 8, .int .i64 0⟩ := by kernel_rfl
theorem zv_2 : ofV (.int .i64 0) = .v (.int .i64 0) := by kernel_rfl
theorem td_3 : tdat Try.prog 3 = some ⟨false, 1, 8, .int .i64 0⟩ := by kernel_rfl
theorem zv_3 : ofV (.int .i64 0) = .v (.int .i64 0) := by kernel_rfl
theorem td_4 : tdat Try.prog 4 = some ⟨false, 1, 1, .bool false⟩ := by kernel_rfl
theorem zv_4 : ofV (.bool false) = .v (.bool false) := by kernel_rfl
theorem td_5 : tdat Try.prog 5 = some ⟨false, 1, 1, .int .u8 0⟩ := by kernel_rfl
theorem zv_5 : ofV (.int .u8 0) = .v (.int .u8 0) := by kernel_rfl
theorem td_6 : tdat Try.prog 6 = some ⟨false, 1, 1, .int .u8 0⟩ := by kernel_rfl
theorem zv_6 : ofV (.int .u8 0) = .v (.int .u8 0) := by kernel_rfl
theorem td_7 : tdat Try.prog 7 = some ⟨true, 4, 24, .agg #[.int .i64 0, .int .i64 0, .bool false, .int .u8 0]⟩ := by kernel_rfl
theorem zv_7 : ofV (.agg #[.int .i64 0, .int .i64 0, .bool false, .int .u8 0]) = .ag [.v (.int .i64 0), .v (.int .i64 0), .v (.bool false), .v (.int .u8 0)] := by kernel_rfl
theorem tf_7 : tflds Try.prog 7 = some [(0, 1, false), (1, 1, false), (2, 1, false), (3, 1, false)] := by kernel_rfl
theorem td_8 : tdat Try.prog 8 = some ⟨true, 4, 24, .agg #[.int .i64 0, .int .i64 0, .bool false, .int .u8 0]⟩ := by kernel_rfl
theorem zv_8 : ofV (.agg #[.int .i64 0, .int .i64 0, .bool false, .int .u8 0]) = .ag [.v (.int .i64 0), .v (.int .i64 0), .v (.bool false), .v (.int .u8 0)] := by kernel_rfl
theorem tf_8 : tflds Try.prog 8 = some [(0, 1, false), (1, 1, false), (2, 1, false), (3, 1, false)] := by kernel_rfl
theorem td_9 : tdat Try.prog 9 = some ⟨false, 1, 16, .string ⟨#[]⟩⟩ := by kernel_rfl
theorem zv_9 : ofV (.string ⟨#[]⟩) = .v (.string ⟨#[]⟩) := by kernel_rfl
theorem td_10 : tdat Try.prog 10 = some ⟨false, 1, 16, .string ⟨#[]⟩⟩ := by kernel_rfl
theorem zv_10 : ofV (.string ⟨#[]⟩) = .v (.string ⟨#[]⟩) := by kernel_rfl
theorem td_11 : tdat Try.prog 11 = some ⟨false, 1, 16, .string ⟨#[]⟩⟩ := by kernel_rfl
theorem zv_11 : ofV (.string ⟨#[]⟩) = .v (.string ⟨#[]⟩) := by kernel_rfl
theorem td_12 : tdat Try.prog 12 = some ⟨false, 1, 8, .int .u64 0⟩ := by kernel_rfl
theorem zv_12 : ofV (.int .u64 0) = .v (.int .u64 0) := by kernel_rfl
theorem td_13 : tdat Try.prog 13 = some ⟨true, 2, 24, .agg #[.string ⟨#[]⟩, .int .u64 0]⟩ := by kernel_rfl
theorem zv_13 : ofV (.agg #[.string ⟨#[]⟩, .int .u64 0]) = .ag [.v (.string ⟨#[]⟩), .v (.int .u64 0)] := by kernel_rfl
theorem tf_13 : tflds Try.prog 13 = some [(0, 1, false), (1, 1, false)] := by kernel_rfl
theorem td_14 : tdat Try.prog 14 = some ⟨true, 2, 24, .agg #[.string ⟨#[]⟩, .int .u64 0]⟩ := by kernel_rfl
theorem zv_14 : ofV (.agg #[.string ⟨#[]⟩, .int .u64 0]) = .ag [.v (.string ⟨#[]⟩), .v (.int .u64 0)] := by kernel_rfl
theorem tf_14 : tflds Try.prog 14 = some [(0, 1, false), (1, 1, false)] := by kernel_rfl
theorem nk_15 : nkT Try.prog 15 = some .nkp := by kernel_rfl
theorem td_15 : tdat Try.prog 15 = some ⟨false, 1, 8, .pointer none⟩ := by kernel_rfl
theorem zv_15 : ofV (.pointer none) = .v (.pointer none) := by kernel_rfl
theorem nk_16 : nkT Try.prog 16 = some .nkp := by kernel_rfl
theorem td_16 : tdat Try.prog 16 = some ⟨false, 1, 8, .pointer none⟩ := by kernel_rfl
theorem zv_16 : ofV (.pointer none) = .v (.pointer none) := by kernel_rfl
theorem nk_17 : nkT Try.prog 17 = some .nkp := by kernel_rfl
theorem td_17 : tdat Try.prog 17 = some ⟨false, 1, 8, .pointer none⟩ := by kernel_rfl
theorem zv_17 : ofV (.pointer none) = .v (.pointer none) := by kernel_rfl
theorem td_18 : tdat Try.prog 18 = some ⟨true, 1, 8, .agg #[.pointer none]⟩ := by kernel_rfl
theorem zv_18 : ofV (.agg #[.pointer none]) = .ag [.v (.pointer none)] := by kernel_rfl
theorem tf_18 : tflds Try.prog 18 = some [(0, 1, false)] := by kernel_rfl
theorem td_19 : tdat Try.prog 19 = some ⟨true, 1, 8, .agg #[.pointer none]⟩ := by kernel_rfl
theorem zv_19 : ofV (.agg #[.pointer none]) = .ag [.v (.pointer none)] := by kernel_rfl
theorem tf_19 : tflds Try.prog 19 = some [(0, 1, false)] := by kernel_rfl
theorem nk_20 : nkT Try.prog 20 = some .nki := by kernel_rfl
theorem td_20 : tdat Try.prog 20 = some ⟨false, 1, 16, .nilIface⟩ := by kernel_rfl
theorem zv_20 : ofV (.nilIface) = .v .nilIface := by kernel_rfl
theorem td_21 : tdat Try.prog 21 = some ⟨false, 1, 4, .int .i32 0⟩ := by kernel_rfl
theorem zv_21 : ofV (.int .i32 0) = .v (.int .i32 0) := by kernel_rfl
theorem td_22 : tdat Try.prog 22 = some ⟨false, 1, 24, .slice none 0 0⟩ := by kernel_rfl
theorem zv_22 : ofV (.slice none 0 0) = .sl .full [] := by kernel_rfl
theorem tel_22 : tel Try.prog 22 = some 5 := by kernel_rfl
theorem nk_23 : nkT Try.prog 23 = some .nkf := by kernel_rfl
theorem td_24 : tdat Try.prog 24 = some ⟨false, 1, 24, .slice none 0 0⟩ := by kernel_rfl
theorem zv_24 : ofV (.slice none 0 0) = .sl .full [] := by kernel_rfl
theorem tel_24 : tel Try.prog 24 = some 32 := by kernel_rfl
theorem td_25 : tdat Try.prog 25 = some ⟨false, 1, 24, .slice none 0 0⟩ := by kernel_rfl
theorem zv_25 : ofV (.slice none 0 0) = .sl .full [] := by kernel_rfl
theorem tel_25 : tel Try.prog 25 = some 50 := by kernel_rfl
theorem td_26 : tdat Try.prog 26 = some ⟨true, 2, 48, .agg #[.slice none 0 0, .slice none 0 0]⟩ := by kernel_rfl
theorem zv_26 : ofV (.agg #[.slice none 0 0, .slice none 0 0]) = .ag [.sl .full [], .sl .full []] := by kernel_rfl
theorem tf_26 : tflds Try.prog 26 = some [(0, 1, false), (1, 1, false)] := by kernel_rfl
theorem td_27 : tdat Try.prog 27 = some ⟨true, 2, 48, .agg #[.slice none 0 0, .slice none 0 0]⟩ := by kernel_rfl
theorem zv_27 : ofV (.agg #[.slice none 0 0, .slice none 0 0]) = .ag [.sl .full [], .sl .full []] := by kernel_rfl
theorem tf_27 : tflds Try.prog 27 = some [(0, 1, false), (1, 1, false)] := by kernel_rfl
theorem td_28 : tdat Try.prog 28 = some ⟨false, 1, 24, .slice none 0 0⟩ := by kernel_rfl
theorem zv_28 : ofV (.slice none 0 0) = .sl .full [] := by kernel_rfl
theorem tel_28 : tel Try.prog 28 = some 3 := by kernel_rfl
theorem nk_29 : nkT Try.prog 29 = some .nkf := by kernel_rfl
theorem td_30 : tdat Try.prog 30 = some ⟨false, 1, 24, .slice none 0 0⟩ := by kernel_rfl
theorem zv_30 : ofV (.slice none 0 0) = .sl .full [] := by kernel_rfl
theorem tel_30 : tel Try.prog 30 = some 36 := by kernel_rfl
theorem td_31 : tdat Try.prog 31 = some ⟨true, 2, 40, .agg #[.string ⟨#[]⟩, .slice none 0 0]⟩ := by kernel_rfl
theorem zv_31 : ofV (.agg #[.string ⟨#[]⟩, .slice none 0 0]) = .ag [.v (.string ⟨#[]⟩), .sl .full []] := by kernel_rfl
theorem tf_31 : tflds Try.prog 31 = some [(0, 1, false), (1, 1, false)] := by kernel_rfl
theorem td_32 : tdat Try.prog 32 = some ⟨true, 2, 40, .agg #[.string ⟨#[]⟩, .slice none 0 0]⟩ := by kernel_rfl
theorem zv_32 : ofV (.agg #[.string ⟨#[]⟩, .slice none 0 0]) = .ag [.v (.string ⟨#[]⟩), .sl .full []] := by kernel_rfl
theorem tf_32 : tflds Try.prog 32 = some [(0, 1, false), (1, 1, false)] := by kernel_rfl
theorem nk_33 : nkT Try.prog 33 = some .nkf := by kernel_rfl
theorem nk_34 : nkT Try.prog 34 = some .nkp := by kernel_rfl
theorem td_34 : tdat Try.prog 34 = some ⟨false, 1, 8, .pointer none⟩ := by kernel_rfl
theorem zv_34 : ofV (.pointer none) = .v (.pointer none) := by kernel_rfl
theorem td_35 : tdat Try.prog 35 = some ⟨true, 2, 32, .agg #[.string ⟨#[]⟩, .string ⟨#[]⟩]⟩ := by kernel_rfl
theorem zv_35 : ofV (.agg #[.string ⟨#[]⟩, .string ⟨#[]⟩]) = .ag [.v (.string ⟨#[]⟩), .v (.string ⟨#[]⟩)] := by kernel_rfl
theorem tf_35 : tflds Try.prog 35 = some [(0, 1, false), (1, 1, false)] := by kernel_rfl
theorem fl_35 : flat1 Try.prog 35 = some [.sks, .sks] := by kernel_rfl
theorem td_36 : tdat Try.prog 36 = some ⟨true, 2, 32, .agg #[.string ⟨#[]⟩, .string ⟨#[]⟩]⟩ := by kernel_rfl
theorem zv_36 : ofV (.agg #[.string ⟨#[]⟩, .string ⟨#[]⟩]) = .ag [.v (.string ⟨#[]⟩), .v (.string ⟨#[]⟩)] := by kernel_rfl
theorem tf_36 : tflds Try.prog 36 = some [(0, 1, false), (1, 1, false)] := by kernel_rfl
theorem fl_36 : flat1 Try.prog 36 = some [.sks, .sks] := by kernel_rfl
theorem nk_37 : nkT Try.prog 37 = some .nkf := by kernel_rfl
theorem nk_39 : nkT Try.prog 39 = some .nkf := by kernel_rfl
theorem nk_40 : nkT Try.prog 40 = some .nkf := by kernel_rfl
theorem td_41 : tdat Try.prog 41 = some ⟨false, 1, 24, .slice none 0 0⟩ := by kernel_rfl
theorem zv_41 : ofV (.slice none 0 0) = .sl .full [] := by kernel_rfl
theorem tel_41 : tel Try.prog 41 = some 43 := by kernel_rfl
theorem td_42 : tdat Try.prog 42 = some ⟨true, 5, 48, .agg #[.int .u8 0, .int .u8 0, .int .i32 0, .string ⟨#[]⟩, .slice none 0 0]⟩ := by kernel_rfl
theorem zv_42 : ofV (.agg #[.int .u8 0, .int .u8 0, .int .i32 0, .string ⟨#[]⟩, .slice none 0 0]) = .ag [.v (.int .u8 0), .v (.int .u8 0), .v (.int .i32 0), .v (.string ⟨#[]⟩), .sl .full []] := by kernel_rfl
theorem tf_42 : tflds Try.prog 42 = some [(0, 1, false), (1, 1, false), (2, 1, false), (3, 1, false), (4, 1, false)] := by kernel_rfl
theorem td_43 : tdat Try.prog 43 = some ⟨true, 5, 48, .agg #[.int .u8 0, .int .u8 0, .int .i32 0, .string ⟨#[]⟩, .slice none 0 0]⟩ := by kernel_rfl
theorem zv_43 : ofV (.agg #[.int .u8 0, .int .u8 0, .int .i32 0, .string ⟨#[]⟩, .slice none 0 0]) = .ag [.v (.int .u8 0), .v (.int .u8 0), .v (.int .i32 0), .v (.string ⟨#[]⟩), .sl .full []] := by kernel_rfl
theorem tf_43 : tflds Try.prog 43 = some [(0, 1, false), (1, 1, false), (2, 1, false), (3, 1, false), (4, 1, false)] := by kernel_rfl
theorem nk_44 : nkT Try.prog 44 = some .nkf := by kernel_rfl
theorem td_45 : tdat Try.prog 45 = some ⟨false, 1, 24, .slice none 0 0⟩ := by kernel_rfl
theorem zv_45 : ofV (.slice none 0 0) = .sl .full [] := by kernel_rfl
theorem tel_45 : tel Try.prog 45 = some 48 := by kernel_rfl
theorem td_46 : tdat Try.prog 46 = some ⟨false, 1, 24, .slice none 0 0⟩ := by kernel_rfl
theorem zv_46 : ofV (.slice none 0 0) = .sl .full [] := by kernel_rfl
theorem tel_46 : tel Try.prog 46 = some 9 := by kernel_rfl
theorem td_47 : tdat Try.prog 47 = some ⟨true, 12, 184, .agg #[.int .u8 0, .string ⟨#[]⟩, .string ⟨#[]⟩, .int .u8 0, .int .u8 0, .int .i32 0, .string ⟨#[]⟩, .slice none 0 0, .slice none 0 0, .slice none 0 0, .slice none 0 0, .slice none 0 0]⟩ := by kernel_rfl
theorem zv_47 : ofV (.agg #[.int .u8 0, .string ⟨#[]⟩, .string ⟨#[]⟩, .int .u8 0, .int .u8 0, .int .i32 0, .string ⟨#[]⟩, .slice none 0 0, .slice none 0 0, .slice none 0 0, .slice none 0 0, .slice none 0 0]) = .ag [.v (.int .u8 0), .v (.string ⟨#[]⟩), .v (.string ⟨#[]⟩), .v (.int .u8 0), .v (.int .u8 0), .v (.int .i32 0), .v (.string ⟨#[]⟩), .sl .full [], .sl .full [], .sl .full [], .sl .full [], .sl .full []] := by kernel_rfl
theorem tf_47 : tflds Try.prog 47 = some [(0, 1, false), (1, 1, false), (2, 1, false), (3, 5, true), (8, 1, false), (9, 1, false), (10, 1, false), (11, 1, false)] := by kernel_rfl
theorem td_48 : tdat Try.prog 48 = some ⟨true, 12, 184, .agg #[.int .u8 0, .string ⟨#[]⟩, .string ⟨#[]⟩, .int .u8 0, .int .u8 0, .int .i32 0, .string ⟨#[]⟩, .slice none 0 0, .slice none 0 0, .slice none 0 0, .slice none 0 0, .slice none 0 0]⟩ := by kernel_rfl
theorem zv_48 : ofV (.agg #[.int .u8 0, .string ⟨#[]⟩, .string ⟨#[]⟩, .int .u8 0, .int .u8 0, .int .i32 0, .string ⟨#[]⟩, .slice none 0 0, .slice none 0 0, .slice none 0 0, .slice none 0 0, .slice none 0 0]) = .ag [.v (.int .u8 0), .v (.string ⟨#[]⟩), .v (.string ⟨#[]⟩), .v (.int .u8 0), .v (.int .u8 0), .v (.int .i32 0), .v (.string ⟨#[]⟩), .sl .full [], .sl .full [], .sl .full [], .sl .full [], .sl .full []] := by kernel_rfl
theorem tf_48 : tflds Try.prog 48 = some [(0, 1, false), (1, 1, false), (2, 1, false), (3, 5, true), (8, 1, false), (9, 1, false), (10, 1, false), (11, 1, false)] := by kernel_rfl
theorem td_49 : tdat Try.prog 49 = some ⟨true, 6, 128, .agg #[.string ⟨#[]⟩, .string ⟨#[]⟩, .slice none 0 0, .slice none 0 0, .slice none 0 0, .slice none 0 0]⟩ := by kernel_rfl
theorem zv_49 : ofV (.agg #[.string ⟨#[]⟩, .string ⟨#[]⟩, .slice none 0 0, .slice none 0 0, .slice none 0 0, .slice none 0 0]) = .ag [.v (.string ⟨#[]⟩), .v (.string ⟨#[]⟩), .sl .full [], .sl .full [], .sl .full [], .sl .full []] := by kernel_rfl
theorem tf_49 : tflds Try.prog 49 = some [(0, 1, false), (1, 1, false), (2, 1, false), (3, 1, false), (4, 1, false), (5, 1, false)] := by kernel_rfl
theorem td_50 : tdat Try.prog 50 = some ⟨true, 6, 128, .agg #[.string ⟨#[]⟩, .string ⟨#[]⟩, .slice none 0 0, .slice none 0 0, .slice none 0 0, .slice none 0 0]⟩ := by kernel_rfl
theorem zv_50 : ofV (.agg #[.string ⟨#[]⟩, .string ⟨#[]⟩, .slice none 0 0, .slice none 0 0, .slice none 0 0, .slice none 0 0]) = .ag [.v (.string ⟨#[]⟩), .v (.string ⟨#[]⟩), .sl .full [], .sl .full [], .sl .full [], .sl .full []] := by kernel_rfl
theorem tf_50 : tflds Try.prog 50 = some [(0, 1, false), (1, 1, false), (2, 1, false), (3, 1, false), (4, 1, false), (5, 1, false)] := by kernel_rfl
theorem nk_51 : nkT Try.prog 51 = some .nkf := by kernel_rfl
theorem nk_52 : nkT Try.prog 52 = some .nkp := by kernel_rfl
theorem td_52 : tdat Try.prog 52 = some ⟨false, 1, 8, .pointer none⟩ := by kernel_rfl
theorem zv_52 : ofV (.pointer none) = .v (.pointer none) := by kernel_rfl
theorem td_53 : tdat Try.prog 53 = some ⟨false, 1, 8, .int .i64 0⟩ := by kernel_rfl
theorem zv_53 : ofV (.int .i64 0) = .v (.int .i64 0) := by kernel_rfl
theorem nk_55 : nkT Try.prog 55 = some .nkf := by kernel_rfl
theorem td_56 : tdat Try.prog 56 = some ⟨false, 1, 24, .slice none 0 0⟩ := by kernel_rfl
theorem zv_56 : ofV (.slice none 0 0) = .sl .full [] := by kernel_rfl
theorem tel_56 : tel Try.prog 56 = some 21 := by kernel_rfl
theorem nk_58 : nkT Try.prog 58 = some .nkf := by kernel_rfl
theorem nk_59 : nkT Try.prog 59 = some .nkf := by kernel_rfl
theorem nk_60 : nkT Try.prog 60 = some .nkf := by kernel_rfl
theorem nk_61 : nkT Try.prog 61 = some .nkf := by kernel_rfl
theorem nk_62 : nkT Try.prog 62 = some .nkf := by kernel_rfl
theorem nk_63 : nkT Try.prog 63 = some .nkf := by kernel_rfl
theorem td_64 : tdat Try.prog 64 = some ⟨false, 1, 2, .int .u16 0⟩ := by kernel_rfl
theorem zv_64 : ofV (.int .u16 0) = .v (.int .u16 0) := by kernel_rfl
theorem nk_65 : nkT Try.prog 65 = some .nkf := by kernel_rfl
theorem nk_66 : nkT Try.prog 66 = some .nkf := by kernel_rfl
theorem nk_67 : nkT Try.prog 67 = some .nkp := by kernel_rfl
theorem td_67 : tdat Try.prog 67 = some ⟨false, 1, 8, .pointer none⟩ := by kernel_rfl
theorem zv_67 : ofV (.pointer none) = .v (.pointer none) := by kernel_rfl
theorem td_68 : tdat Try.prog 68 = some ⟨false, 1, 24, .slice none 0 0⟩ := by kernel_rfl
theorem zv_68 : ofV (.slice none 0 0) = .sl .full [] := by kernel_rfl
theorem tel_68 : tel Try.prog 68 = some 4 := by kernel_rfl
theorem td_69 : tdat Try.prog 69 = some ⟨true, 4, 16, .agg #[.int .i32 0, .int .i32 0, .int .i32 0, .int .i32 0]⟩ := by kernel_rfl
theorem zv_69 : ofV (.agg #[.int .i32 0, .int .i32 0, .int .i32 0, .int .i32 0]) = .ag [.v (.int .i32 0), .v (.int .i32 0), .v (.int .i32 0), .v (.int .i32 0)] := by kernel_rfl
theorem tf_69 : tflds Try.prog 69 = none := by kernel_rfl
theorem tel_69 : tel Try.prog 69 = none := by kernel_rfl
theorem ta_69 : tarr Try.prog 69 = some (4, 21) := by kernel_rfl
theorem td_70 : tdat Try.prog 70 = some ⟨true, 4, 4, .agg #[.bool false, .bool false, .bool false, .bool false]⟩ := by kernel_rfl
theorem zv_70 : ofV (.agg #[.bool false, .bool false, .bool false, .bool false]) = .ag [.v (.bool false), .v (.bool false), .v (.bool false), .v (.bool false)] := by kernel_rfl
theorem tf_70 : tflds Try.prog 70 = none := by kernel_rfl
theorem tel_70 : tel Try.prog 70 = none := by kernel_rfl
theorem ta_70 : tarr Try.prog 70 = some (4, 4) := by kernel_rfl
theorem td_71 : tdat Try.prog 71 = some ⟨true, 12, 88, .agg #[.int .i32 0, .int .i32 0, .int .i32 0, .int .i32 0, .bool false, .bool false, .bool false, .bool false, .slice none 0 0, .slice none 0 0, .int .i64 0, .int .u8 0]⟩ := by kernel_rfl
theorem zv_71 : ofV (.agg #[.int .i32 0, .int .i32 0, .int .i32 0, .int .i32 0, .bool false, .bool false, .bool false, .bool false, .slice none 0 0, .slice none 0 0, .int .i64 0, .int .u8 0]) = .ag [.v (.int .i32 0), .v (.int .i32 0), .v (.int .i32 0), .v (.int .i32 0), .v (.bool false), .v (.bool false), .v (.bool false), .v (.bool false), .sl .full [], .sl .full [], .v (.int .i64 0), .v (.int .u8 0)] := by kernel_rfl
theorem tf_71 : tflds Try.prog 71 = some [(0, 4, true), (4, 4, true), (8, 1, false), (9, 1, false), (10, 1, false), (11, 1, false)] := by kernel_rfl
theorem td_72 : tdat Try.prog 72 = some ⟨true, 12, 88, .agg #[.int .i32 0, .int .i32 0, .int .i32 0, .int .i32 0, .bool false, .bool false, .bool false, .bool false, .slice none 0 0, .slice none 0 0, .int .i64 0, .int .u8 0]⟩ := by kernel_rfl
theorem zv_72 : ofV (.agg #[.int .i32 0, .int .i32 0, .int .i32 0, .int .i32 0, .bool false, .bool false, .bool false, .bool false, .slice none 0 0, .slice none 0 0, .int .i64 0, .int .u8 0]) = .ag [.v (.int .i32 0), .v (.int .i32 0), .v (.int .i32 0), .v (.int .i32 0), .v (.bool false), .v (.bool false), .v (.bool false), .v (.bool false), .sl .full [], .sl .full [], .v (.int .i64 0), .v (.int .u8 0)] := by kernel_rfl
theorem tf_72 : tflds Try.prog 72 = some [(0, 4, true), (4, 4, true), (8, 1, false), (9, 1, false), (10, 1, false), (11, 1, false)] := by kernel_rfl
theorem nk_73 : nkT Try.prog 73 = some .nkf := by kernel_rfl
theorem nk_74 : nkT Try.prog 74 = some .nkf := by kernel_rfl
theorem nk_75 : nkT Try.prog 75 = some .nkf := by kernel_rfl
theorem nk_76 : nkT Try.prog 76 = some .nkf := by kernel_rfl
theorem nk_77 : nkT Try.prog 77 = some .nkf := by kernel_rfl
theorem nk_78 : nkT Try.prog 78 = some .nkf := by kernel_rfl
theorem nk_79 : nkT Try.prog 79 = some .nkf := by kernel_rfl
theorem nk_80 : nkT Try.prog 80 = some .nkf := by kernel_rfl
theorem nk_81 : nkT Try.prog 81 = some .nkf := by kernel_rfl
theorem nk_82 : nkT Try.prog 82 = some .nkf := by kernel_rfl
theorem nk_83 : nkT Try.prog 83 = some .nkf := by kernel_rfl
theorem td_84 : tdat Try.prog 84 = some ⟨false, 1, 8, .int .u64 0⟩ := by kernel_rfl
theorem zv_84 : ofV (.int .u64 0) = .v (.int .u64 0) := by kernel_rfl
theorem td_85 : tdat Try.prog 85 = some ⟨true, 4, 96, .agg #[.slice none 0 0, .slice none 0 0, .slice none 0 0, .slice none 0 0]⟩ := by kernel_rfl
theorem zv_85 : ofV (.agg #[.slice none 0 0, .slice none 0 0, .slice none 0 0, .slice none 0 0]) = .ag [.sl .full [], .sl .full [], .sl .full [], .sl .full []] := by kernel_rfl
theorem tf_85 : tflds Try.prog 85 = some [(0, 2, true), (2, 1, false), (3, 1, false)] := by kernel_rfl
theorem td_86 : tdat Try.prog 86 = some ⟨true, 4, 96, .agg #[.slice none 0 0, .slice none 0 0, .slice none 0 0, .slice none 0 0]⟩ := by kernel_rfl
theorem zv_86 : ofV (.agg #[.slice none 0 0, .slice none 0 0, .slice none 0 0, .slice none 0 0]) = .ag [.sl .full [], .sl .full [], .sl .full [], .sl .full []] := by kernel_rfl
theorem tf_86 : tflds Try.prog 86 = some [(0, 2, true), (2, 1, false), (3, 1, false)] := by kernel_rfl
theorem td_87 : tdat Try.prog 87 = some ⟨true, 1, 1, .agg #[.int .u8 0]⟩ := by kernel_rfl
theorem zv_87 : ofV (.agg #[.int .u8 0]) = .ag [.v (.int .u8 0)] := by kernel_rfl
theorem tf_87 : tflds Try.prog 87 = some [(0, 1, false)] := by kernel_rfl
theorem fl_87 : flat1 Try.prog 87 = some [.ski] := by kernel_rfl
theorem td_88 : tdat Try.prog 88 = some ⟨true, 1, 1, .agg #[.int .u8 0]⟩ := by kernel_rfl
theorem zv_88 : ofV (.agg #[.int .u8 0]) = .ag [.v (.int .u8 0)] := by kernel_rfl
theorem tf_88 : tflds Try.prog 88 = some [(0, 1, false)] := by kernel_rfl
theorem fl_88 : flat1 Try.prog 88 = some [.ski] := by kernel_rfl
theorem nk_89 : nkT Try.prog 89 = some .nkf := by kernel_rfl
theorem nk_90 : nkT Try.prog 90 = some .nkf := by kernel_rfl
theorem nk_91 : nkT Try.prog 91 = some .nkf := by kernel_rfl
theorem nk_92 : nkT Try.prog 92 = some .nkf := by kernel_rfl
theorem nk_93 : nkT Try.prog 93 = some .nkf := by kernel_rfl
theorem nk_94 : nkT Try.prog 94 = some .nkf := by kernel_rfl
theorem nk_95 : nkT Try.prog 95 = some .nkf := by kernel_rfl
theorem nk_96 : nkT Try.prog 96 = some .nkf := by kernel_rfl
theorem nk_97 : nkT Try.prog 97 = some .nkp := by kernel_rfl
theorem td_97 : tdat Try.prog 97 = some ⟨false, 1, 8, .pointer none⟩ := by kernel_rfl
theorem zv_97 : ofV (.pointer none) = .v (.pointer none) := by kernel_rfl
theorem td_98 : tdat Try.prog 98 = some ⟨false, 1, 8, .map none⟩ := by kernel_rfl
theorem zv_98 : ofV (.map none) = .v (.map none) := by kernel_rfl
theorem td_99 : tdat Try.prog 99 = some ⟨true, 11, 168, .agg #[.pointer none, .string ⟨#[]⟩, .string ⟨#[]⟩, .slice none 0 0, .slice none 0 0, .slice none 0 0, .slice none 0 0, .int .i64 0, .map none, .pointer none, .int .i64 0]⟩ := by kernel_rfl
theorem zv_99 : ofV (.agg #[.pointer none, .string ⟨#[]⟩, .string ⟨#[]⟩, .slice none 0 0, .slice none 0 0, .slice none 0 0, .slice none 0 0, .int .i64 0, .map none, .pointer none, .int .i64 0]) = .ag [.v (.pointer none), .v (.string ⟨#[]⟩), .v (.string ⟨#[]⟩), .sl .full [], .sl .full [], .sl .full [], .sl .full [], .v (.int .i64 0), .v (.map none), .v (.pointer none), .v (.int .i64 0)] := by kernel_rfl
theorem tf_99 : tflds Try.prog 99 = some [(0, 1, false), (1, 6, true), (7, 1, false), (8, 1, false), (9, 1, false), (10, 1, false)] := by kernel_rfl
theorem td_100 : tdat Try.prog 100 = some ⟨true, 11, 168, .agg #[.pointer none, .string ⟨#[]⟩, .string ⟨#[]⟩, .slice none 0 0, .slice none 0 0, .slice none 0 0, .slice none 0 0, .int .i64 0, .map none, .pointer none, .int .i64 0]⟩ := by kernel_rfl
theorem zv_100 : ofV (.agg #[.pointer none, .string ⟨#[]⟩, .string ⟨#[]⟩, .slice none 0 0, .slice none 0 0, .slice none 0 0, .slice none 0 0, .int .i64 0, .map none, .pointer none, .int .i64 0]) = .ag [.v (.pointer none), .v (.string ⟨#[]⟩), .v (.string ⟨#[]⟩), .sl .full [], .sl .full [], .sl .full [], .sl .full [], .v (.int .i64 0), .v (.map none), .v (.pointer none), .v (.int .i64 0)] := by kernel_rfl
theorem tf_100 : tflds Try.prog 100 = some [(0, 1, false), (1, 6, true), (7, 1, false), (8, 1, false), (9, 1, false), (10, 1, false)] := by kernel_rfl
theorem nk_101 : nkT Try.prog 101 = some .nkf := by kernel_rfl
theorem nk_102 : nkT Try.prog 102 = some .nkf := by kernel_rfl
theorem nk_103 : nkT Try.prog 103 = some .nkf := by kernel_rfl
theorem nk_105 : nkT Try.prog 105 = some .nkf := by kernel_rfl
theorem nk_106 : nkT Try.prog 106 = some .nkf := by kernel_rfl
theorem td_107 : tdat Try.prog 107 = some ⟨true, 7, 56, .agg #[.int .i64 0, .int .i64 0, .int .i64 0, .int .i64 0, .int .i64 0, .int .i64 0, .int .i64 0]⟩ := by kernel_rfl
theorem zv_107 : ofV (.agg #[.int .i64 0, .int .i64 0, .int .i64 0, .int .i64 0, .int .i64 0, .int .i64 0, .int .i64 0]) = .ag [.v (.int .i64 0), .v (.int .i64 0), .v (.int .i64 0), .v (.int .i64 0), .v (.int .i64 0), .v (.int .i64 0), .v (.int .i64 0)] := by kernel_rfl
theorem tf_107 : tflds Try.prog 107 = none := by kernel_rfl
theorem tel_107 : tel Try.prog 107 = none := by kernel_rfl
theorem ta_107 : tarr Try.prog 107 = some (7, 3) := by kernel_rfl
theorem nk_108 : nkT Try.prog 108 = some .nkf := by kernel_rfl
theorem td_109 : tdat Try.prog 109 = some ⟨true, 4, 40, .agg #[.pointer none, .pointer none, .pointer none, .string ⟨#[]⟩]⟩ := by kernel_rfl
theorem zv_109 : ofV (.agg #[.pointer none, .pointer none, .pointer none, .string ⟨#[]⟩]) = .ag [.v (.pointer none), .v (.pointer none), .v (.pointer none), .v (.string ⟨#[]⟩)] := by kernel_rfl
theorem tf_109 : tflds Try.prog 109 = some [(0, 1, false), (1, 1, false), (2, 1, false), (3, 1, false)] := by kernel_rfl
theorem td_110 : tdat Try.prog 110 = some ⟨true, 4, 40, .agg #[.pointer none, .pointer none, .pointer none, .string ⟨#[]⟩]⟩ := by kernel_rfl
theorem zv_110 : ofV (.agg #[.pointer none, .pointer none, .pointer none, .string ⟨#[]⟩]) = .ag [.v (.pointer none), .v (.pointer none), .v (.pointer none), .v (.string ⟨#[]⟩)] := by kernel_rfl
theorem tf_110 : tflds Try.prog 110 = some [(0, 1, false), (1, 1, false), (2, 1, false), (3, 1, false)] := by kernel_rfl
theorem td_111 : tdat Try.prog 111 = some ⟨true, 0, 0, .agg #[]⟩ := by kernel_rfl
theorem zv_111 : ofV (.agg #[]) = .ag [] := by kernel_rfl
theorem tf_111 : tflds Try.prog 111 = none := by kernel_rfl
theorem tel_111 : tel Try.prog 111 = none := by kernel_rfl
theorem ta_111 : tarr Try.prog 111 = some (0, 16) := by kernel_rfl
theorem td_112 : tdat Try.prog 112 = some ⟨true, 0, 0, .agg #[]⟩ := by kernel_rfl
theorem zv_112 : ofV (.agg #[]) = .ag [] := by kernel_rfl
theorem tf_112 : tflds Try.prog 112 = some [(0, 0, true)] := by kernel_rfl
theorem td_113 : tdat Try.prog 113 = some ⟨true, 0, 0, .agg #[]⟩ := by kernel_rfl
theorem zv_113 : ofV (.agg #[]) = .ag [] := by kernel_rfl
theorem tf_113 : tflds Try.prog 113 = some [(0, 0, true)] := by kernel_rfl
theorem nk_114 : nkT Try.prog 114 = some .nkf := by kernel_rfl
theorem td_115 : tdat Try.prog 115 = some ⟨false, 1, 4, .int .u32 0⟩ := by kernel_rfl
theorem zv_115 : ofV (.int .u32 0) = .v (.int .u32 0) := by kernel_rfl
theorem td_116 : tdat Try.prog 116 = some ⟨false, 1, 1, .int .u8 0⟩ := by kernel_rfl
theorem zv_116 : ofV (.int .u8 0) = .v (.int .u8 0) := by kernel_rfl
theorem td_117 : tdat Try.prog 117 = some ⟨false, 1, 1, .int .u8 0⟩ := by kernel_rfl
theorem zv_117 : ofV (.int .u8 0) = .v (.int .u8 0) := by kernel_rfl
theorem nk_118 : nkT Try.prog 118 = some .nkf := by kernel_rfl
theorem nk_119 : nkT Try.prog 119 = some .nkp := by kernel_rfl
theorem td_119 : tdat Try.prog 119 = some ⟨false, 1, 8, .pointer none⟩ := by kernel_rfl
theorem zv_119 : ofV (.pointer none) = .v (.pointer none) := by kernel_rfl
theorem td_120 : tdat Try.prog 120 = some ⟨false, 1, 4, .int .i32 0⟩ := by kernel_rfl
theorem zv_120 : ofV (.int .i32 0) = .v (.int .i32 0) := by kernel_rfl
theorem td_121 : tdat Try.prog 121 = some ⟨false, 1, 4, .int .i32 0⟩ := by kernel_rfl
theorem zv_121 : ofV (.int .i32 0) = .v (.int .i32 0) := by kernel_rfl
theorem td_122 : tdat Try.prog 122 = some ⟨true, 11, 48, .agg #[.int .u64 0, .int .u64 0, .int .u32 0, .int .u8 0, .int .u8 0, .int .u8 0, .int .u8 0, .nilFunc, .pointer none, .int .i32 0, .int .i32 0]⟩ := by kernel_rfl
theorem zv_122 : ofV (.agg #[.int .u64 0, .int .u64 0, .int .u32 0, .int .u8 0, .int .u8 0, .int .u8 0, .int .u8 0, .nilFunc, .pointer none, .int .i32 0, .int .i32 0]) = .ag [.v (.int .u64 0), .v (.int .u64 0), .v (.int .u32 0), .v (.int .u8 0), .v (.int .u8 0), .v (.int .u8 0), .v (.int .u8 0), .v .nilFunc, .v (.pointer none), .v (.int .i32 0), .v (.int .i32 0)] := by kernel_rfl
theorem tf_122 : tflds Try.prog 122 = some [(0, 1, false), (1, 1, false), (2, 1, false), (3, 1, false), (4, 1, false), (5, 1, false), (6, 1, false), (7, 1, false), (8, 1, false), (9, 1, false), (10, 1, false)] := by kernel_rfl
theorem td_123 : tdat Try.prog 123 = some ⟨true, 11, 48, .agg #[.int .u64 0, .int .u64 0, .int .u32 0, .int .u8 0, .int .u8 0, .int .u8 0, .int .u8 0, .nilFunc, .pointer none, .int .i32 0, .int .i32 0]⟩ := by kernel_rfl
theorem zv_123 : ofV (.agg #[.int .u64 0, .int .u64 0, .int .u32 0, .int .u8 0, .int .u8 0, .int .u8 0, .int .u8 0, .nilFunc, .pointer none, .int .i32 0, .int .i32 0]) = .ag [.v (.int .u64 0), .v (.int .u64 0), .v (.int .u32 0), .v (.int .u8 0), .v (.int .u8 0), .v (.int .u8 0), .v (.int .u8 0), .v .nilFunc, .v (.pointer none), .v (.int .i32 0), .v (.int .i32 0)] := by kernel_rfl
theorem tf_123 : tflds Try.prog 123 = some [(0, 1, false), (1, 1, false), (2, 1, false), (3, 1, false), (4, 1, false), (5, 1, false), (6, 1, false), (7, 1, false), (8, 1, false), (9, 1, false), (10, 1, false)] := by kernel_rfl
theorem td_124 : tdat Try.prog 124 = some ⟨false, 1, 8, .pointer none⟩ := by kernel_rfl
theorem zv_124 : ofV (.pointer none) = .v (.pointer none) := by kernel_rfl
set_option linter.defProp false
def tfA0 := And.intro @nk_1 (And.intro @td_2 (And.intro @zv_2 (And.intro @Try.underlying2 (And.intro @td_3 (And.intro @zv_3 (And.intro @Try.underlying3 (And.intro @td_4 (And.intro @zv_4 (And.intro @Try.underlying4 (And.intro @td_5 (And.intro @zv_5 (And.intro @Try.underlying5 (And.intro @td_6 (And.intro @zv_6 (And.intro @Try.underlying6 (And.intro @td_7 (And.intro @zv_7 (And.intro @tf_7 (And.intro @td_8 (And.intro @zv_8 (And.intro @tf_8 (And.intro @td_9 (And.intro @zv_9 (And.intro @Try.underlying9 (And.intro @td_10 (And.intro @zv_10 (And.intro @Try.underlying10 (And.intro @td_11 @zv_11))))))))))))))))))))))))))))
def tfA1 := And.intro @Try.underlying11 (And.intro @td_12 (And.intro @zv_12 (And.intro @Try.underlying12 (And.intro @td_13 (And.intro @zv_13 (And.intro @tf_13 (And.intro @td_14 (And.intro @zv_14 (And.intro @tf_14 (And.intro @nk_15 (And.intro @td_15 (And.intro @zv_15 (And.intro @Try.underlying15 (And.intro @nk_16 (And.intro @td_16 (And.intro @zv_16 (And.intro @Try.underlying16 (And.intro @nk_17 (And.intro @td_17 (And.intro @zv_17 (And.intro @Try.underlying17 (And.intro @td_18 (And.intro @zv_18 (And.intro @tf_18 (And.intro @td_19 (And.intro @zv_19 (And.intro @tf_19 (And.intro @nk_20 @td_20))))))))))))))))))))))))))))
def tfA2 := And.intro @zv_20 (And.intro @td_21 (And.intro @zv_21 (And.intro @Try.underlying21 (And.intro @td_22 (And.intro @zv_22 (And.intro @tel_22 (And.intro @Try.underlying22 (And.intro @nk_23 (And.intro @td_24 (And.intro @zv_24 (And.intro @tel_24 (And.intro @Try.underlying24 (And.intro @td_25 (And.intro @zv_25 (And.intro @tel_25 (And.intro @Try.underlying25 (And.intro @td_26 (And.intro @zv_26 (And.intro @tf_26 (And.intro @td_27 (And.intro @zv_27 (And.intro @tf_27 (And.intro @td_28 (And.intro @zv_28 (And.intro @tel_28 (And.intro @Try.underlying28 (And.intro @nk_29 (And.intro @td_30 @zv_30))))))))))))))))))))))))))))
def tfA3 := And.intro @tel_30 (And.intro @Try.underlying30 (And.intro @td_31 (And.intro @zv_31 (And.intro @tf_31 (And.intro @td_32 (And.intro @zv_32 (And.intro @tf_32 (And.intro @nk_33 (And.intro @nk_34 (And.intro @td_34 (And.intro @zv_34 (And.intro @Try.underlying34 (And.intro @td_35 (And.intro @zv_35 (And.intro @tf_35 (And.intro @fl_35 (And.intro @td_36 (And.intro @zv_36 (And.intro @tf_36 (And.intro @fl_36 (And.intro @nk_37 (And.intro @nk_39 (And.intro @nk_40 (And.intro @td_41 (And.intro @zv_41 (And.intro @tel_41 (And.intro @Try.underlying41 (And.intro @td_42 @zv_42))))))))))))))))))))))))))))
def tfA4 := And.intro @tf_42 (And.intro @td_43 (And.intro @zv_43 (And.intro @tf_43 (And.intro @nk_44 (And.intro @td_45 (And.intro @zv_45 (And.intro @tel_45 (And.intro @Try.underlying45 (And.intro @td_46 (And.intro @zv_46 (And.intro @tel_46 (And.intro @Try.underlying46 (And.intro @td_47 (And.intro @zv_47 (And.intro @tf_47 (And.intro @td_48 (And.intro @zv_48 (And.intro @tf_48 (And.intro @td_49 (And.intro @zv_49 (And.intro @tf_49 (And.intro @td_50 (And.intro @zv_50 (And.intro @tf_50 (And.intro @nk_51 (And.intro @nk_52 (And.intro @td_52 (And.intro @zv_52 @Try.underlying52))))))))))))))))))))))))))))
def tfA5 := And.intro @td_53 (And.intro @zv_53 (And.intro @Try.underlying53 (And.intro @nk_55 (And.intro @td_56 (And.intro @zv_56 (And.intro @tel_56 (And.intro @Try.underlying56 (And.intro @nk_58 (And.intro @nk_59 (And.intro @nk_60 (And.intro @nk_61 (And.intro @nk_62 (And.intro @nk_63 (And.intro @td_64 (And.intro @zv_64 (And.intro @Try.underlying64 (And.intro @nk_65 (And.intro @nk_66 (And.intro @nk_67 (And.intro @td_67 (And.intro @zv_67 (And.intro @Try.underlying67 (And.intro @td_68 (And.intro @zv_68 (And.intro @tel_68 (And.intro @Try.underlying68 (And.intro @td_69 (And.intro @zv_69 @tf_69))))))))))))))))))))))))))))
def tfA6 := And.intro @tel_69 (And.intro @ta_69 (And.intro @Try.underlying69 (And.intro @td_70 (And.intro @zv_70 (And.intro @tf_70 (And.intro @tel_70 (And.intro @ta_70 (And.intro @Try.underlying70 (And.intro @td_71 (And.intro @zv_71 (And.intro @tf_71 (And.intro @td_72 (And.intro @zv_72 (And.intro @tf_72 (And.intro @nk_73 (And.intro @nk_74 (And.intro @nk_75 (And.intro @nk_76 (And.intro @nk_77 (And.intro @nk_78 (And.intro @nk_79 (And.intro @nk_80 (And.intro @nk_81 (And.intro @nk_82 (And.intro @nk_83 (And.intro @td_84 (And.intro @zv_84 (And.intro @Try.underlying84 @td_85))))))))))))))))))))))))))))
def tfA7 := And.intro @zv_85 (And.intro @tf_85 (And.intro @td_86 (And.intro @zv_86 (And.intro @tf_86 (And.intro @td_87 (And.intro @zv_87 (And.intro @tf_87 (And.intro @fl_87 (And.intro @td_88 (And.intro @zv_88 (And.intro @tf_88 (And.intro @fl_88 (And.intro @nk_89 (And.intro @nk_90 (And.intro @nk_91 (And.intro @nk_92 (And.intro @nk_93 (And.intro @nk_94 (And.intro @nk_95 (And.intro @nk_96 (And.intro @nk_97 (And.intro @td_97 (And.intro @zv_97 (And.intro @Try.underlying97 (And.intro @td_98 (And.intro @zv_98 (And.intro @td_99 (And.intro @zv_99 @tf_99))))))))))))))))))))))))))))
def tfA8 := And.intro @td_100 (And.intro @zv_100 (And.intro @tf_100 (And.intro @nk_101 (And.intro @nk_102 (And.intro @nk_103 (And.intro @nk_105 (And.intro @nk_106 (And.intro @td_107 (And.intro @zv_107 (And.intro @tf_107 (And.intro @tel_107 (And.intro @ta_107 (And.intro @Try.underlying107 (And.intro @nk_108 (And.intro @td_109 (And.intro @zv_109 (And.intro @tf_109 (And.intro @td_110 (And.intro @zv_110 (And.intro @tf_110 (And.intro @td_111 (And.intro @zv_111 (And.intro @tf_111 (And.intro @tel_111 (And.intro @ta_111 (And.intro @Try.underlying111 (And.intro @td_112 (And.intro @zv_112 @tf_112))))))))))))))))))))))))))))
def tfA9 := And.intro @td_113 (And.intro @zv_113 (And.intro @tf_113 (And.intro @nk_114 (And.intro @td_115 (And.intro @zv_115 (And.intro @Try.underlying115 (And.intro @td_116 (And.intro @zv_116 (And.intro @Try.underlying116 (And.intro @td_117 (And.intro @zv_117 (And.intro @Try.underlying117 (And.intro @nk_118 (And.intro @nk_119 (And.intro @td_119 (And.intro @zv_119 (And.intro @Try.underlying119 (And.intro @td_120 (And.intro @zv_120 (And.intro @Try.underlying120 (And.intro @td_121 (And.intro @zv_121 (And.intro @Try.underlying121 (And.intro @td_122 (And.intro @zv_122 (And.intro @tf_122 (And.intro @td_123 (And.intro @zv_123 @tf_123))))))))))))))))))))))))))))
def tfA10 := And.intro @td_124 @zv_124
def tfA := And.intro @tfA0 (And.intro @tfA1 (And.intro @tfA2 (And.intro @tfA3 (And.intro @tfA4 (And.intro @tfA5 (And.intro @tfA6 (And.intro @tfA7 (And.intro @tfA8 (And.intro @tfA9 @tfA10)))))))))
end Go.Proofs.Ytepjjgnkhcjpcaa
