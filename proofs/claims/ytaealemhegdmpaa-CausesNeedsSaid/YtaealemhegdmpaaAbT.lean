/-
 Closed facts on the types of this seat.
-/
-- halved
import Derived.Test.YtaealemhegdmpaaRows
import Derived.Test.YtaealemhegdmpaaWpA
import Derived.KernelRfl
namespace Go.Proofs.Ytaealemhegdmpaa
open Go Go.RowKit
theorem ok_mix : Try.prog.follows .mixedOrders = true := by kernel_rfl
theorem nk_1 : nkT Try.prog 1 = some .nkf := by kernel_rfl
theorem td_2 : tdat Try.prog 2 = some ⟨false, 1, 8, .int .i64 0⟩ := by kernel_rfl
theorem zv_2 : ofV (.int .i64 0) = .v (.int .i64 0) := by kernel_rfl
theorem td_3 : tdat Try.prog 3 = some ⟨false, 1, 8, .int .i64 0⟩ := by kernel_rfl
theorem zv_3 : ofV (.int .i64 0) = .v (.int .i64 0) := by kernel_rfl
theorem td_4 : tdat Try.prog 4 = some ⟨false, 1, 1, .bool false⟩ := by kernel_rfl
theorem zv_4 : ofV (.bool false) = .v (.bool false) := by kernel_rfl
theorem td_5 : tdat Try.prog 5 = some ⟨false, 1, 1, .int .u8 0⟩ := by kernel_rfl
theorem zv_5 : ofV (.int .u8 0) = .v (.int .u8 0) := by kernel_rfl
theorem td_6 : tdat Try.prog 6 = some ⟨false, 1, 1, .int .u8 0⟩ := by kernel_rfl
theorem zv_6 : ofV (.int .u8 0) = .v (.int .u8 0) := by kernel_rfl
theorem td_7 : tdat Try.prog 7 = some ⟨true, 4, 24, .agg #[.int .i64 0, .int .i64 0, .bool false, .int .u8 0]⟩ := by kernel_rfl
theorem zv_7 : ofV (.agg #[.int .i64 0, .int .i64 0, .bool false, .int .u8 0]) = .ag [.v (.int .i64 0), .v (.int .i64 0), .v (.bool false), .v (.int .u8 0)] := by kernel_rfl
theorem tf_7 : tflds Try.prog 7 = some [(0, 1, false), (1, 1, false), (2, 1, false), (3, 1, false)] := by kernel_rfl
theorem td_8 : tdat Try.prog 8 = some ⟨true, 4, 24, .agg #[.int .i64 0, .int .i64 0, .bool false, .int .u8 0]⟩ := by kernel_rfl
theorem zv_8 : ofV (.agg #[.int .i64 0, .int .i64 0, .bool false, .int .u8 0]) = .ag [.v (.int .i64 0), .v (.int .i64 0), .v (.bool false), .v (.int .u8 0)] := by kernel_rfl
theorem tf_8 : tflds Try.prog 8 = some [(0, 1, false), (1, 1, false), (2, 1, false), (3, 1, false)] := by kernel_rfl
theorem td_9 : tdat Try.prog 9 = some ⟨false, 1, 16, .string ⟨#[]⟩⟩ := by kernel_rfl
theorem zv_9 : ofV (.string ⟨#[]⟩) = .v (.string ⟨#[]⟩) := by kernel_rfl
theorem td_10 : tdat Try.prog 10 = some ⟨false, 1, 16, .string ⟨#[]⟩⟩ := by kernel_rfl
theorem zv_10 : ofV (.string ⟨#[]⟩) = .v (.string ⟨#[]⟩) := by kernel_rfl
theorem td_11 : tdat Try.prog 11 = some ⟨false, 1, 16, .string ⟨#[]⟩⟩ := by kernel_rfl
theorem zv_11 : ofV (.string ⟨#[]⟩) = .v (.string ⟨#[]⟩) := by kernel_rfl
theorem td_12 : tdat Try.prog 12 = some ⟨false, 1, 8, .int .u64 0⟩ := by kernel_rfl
theorem zv_12 : ofV (.int .u64 0) = .v (.int .u64 0) := by kernel_rfl
theorem td_13 : tdat Try.prog 13 = some ⟨true, 2, 24, .agg #[.string ⟨#[]⟩, .int .u64 0]⟩ := by kernel_rfl
theorem zv_13 : ofV (.agg #[.string ⟨#[]⟩, .int .u64 0]) = .ag [.v (.string ⟨#[]⟩), .v (.int .u64 0)] := by kernel_rfl
theorem tf_13 : tflds Try.prog 13 = some [(0, 1, false), (1, 1, false)] := by kernel_rfl
theorem td_14 : tdat Try.prog 14 = some ⟨true, 2, 24, .agg #[.string ⟨#[]⟩, .int .u64 0]⟩ := by kernel_rfl
theorem zv_14 : ofV (.agg #[.string ⟨#[]⟩, .int .u64 0]) = .ag [.v (.string ⟨#[]⟩), .v (.int .u64 0)] := by kernel_rfl
theorem tf_14 : tflds Try.prog 14 = some [(0, 1, false), (1, 1, false)] := by kernel_rfl
theorem nk_15 : nkT Try.prog 15 = some .nkp := by kernel_rfl
theorem td_15 : tdat Try.prog 15 = some ⟨false, 1, 8, .pointer none⟩ := by kernel_rfl
theorem zv_15 : ofV (.pointer none) = .v (.pointer none) := by kernel_rfl
theorem nk_16 : nkT Try.prog 16 = some .nkp := by kernel_rfl
theorem td_16 : tdat Try.prog 16 = some ⟨false, 1, 8, .pointer none⟩ := by kernel_rfl
theorem zv_16 : ofV (.pointer none) = .v (.pointer none) := by kernel_rfl
theorem nk_17 : nkT Try.prog 17 = some .nkp := by kernel_rfl
theorem td_17 : tdat Try.prog 17 = some ⟨false, 1, 8, .pointer none⟩ := by kernel_rfl
theorem zv_17 : ofV (.pointer none) = .v (.pointer none) := by kernel_rfl
theorem td_18 : tdat Try.prog 18 = some ⟨true, 1, 8, .agg #[.pointer none]⟩ := by kernel_rfl
theorem zv_18 : ofV (.agg #[.pointer none]) = .ag [.v (.pointer none)] := by kernel_rfl
theorem tf_18 : tflds Try.prog 18 = some [(0, 1, false)] := by kernel_rfl
theorem td_19 : tdat Try.prog 19 = some ⟨true, 1, 8, .agg #[.pointer none]⟩ := by kernel_rfl
theorem zv_19 : ofV (.agg #[.pointer none]) = .ag [.v (.pointer none)] := by kernel_rfl
theorem tf_19 : tflds Try.prog 19 = some [(0, 1, false)] := by kernel_rfl
theorem nk_20 : nkT Try.prog 20 = some .nki := by kernel_rfl
theorem td_20 : tdat Try.prog 20 = some ⟨false, 1, 16, .nilIface⟩ := by kernel_rfl
theorem zv_20 : ofV (.nilIface) = .v .nilIface := by kernel_rfl
theorem td_21 : tdat Try.prog 21 = some ⟨false, 1, 4, .int .i32 0⟩ := by kernel_rfl
theorem zv_21 : ofV (.int .i32 0) = .v (.int .i32 0) := by kernel_rfl
theorem td_22 : tdat Try.prog 22 = some ⟨false, 1, 24, .slice none 0 0⟩ := by kernel_rfl
theorem zv_22 : ofV (.slice none 0 0) = .sl .full [] := by kernel_rfl
theorem tel_22 : tel Try.prog 22 = some 5 := by kernel_rfl
theorem nk_23 : nkT Try.prog 23 = some .nkf := by kernel_rfl
theorem nk_24 : nkT Try.prog 24 = some .nki := by kernel_rfl
theorem td_24 : tdat Try.prog 24 = some ⟨false, 1, 16, .nilIface⟩ := by kernel_rfl
theorem zv_24 : ofV (.nilIface) = .v .nilIface := by kernel_rfl
theorem nk_25 : nkT Try.prog 25 = some .nki := by kernel_rfl
theorem td_25 : tdat Try.prog 25 = some ⟨false, 1, 16, .nilIface⟩ := by kernel_rfl
theorem zv_25 : ofV (.nilIface) = .v .nilIface := by kernel_rfl
theorem nk_26 : nkT Try.prog 26 = some .nkf := by kernel_rfl
theorem td_27 : tdat Try.prog 27 = some ⟨false, 1, 24, .slice none 0 0⟩ := by kernel_rfl
theorem zv_27 : ofV (.slice none 0 0) = .sl .full [] := by kernel_rfl
theorem tel_27 : tel Try.prog 27 = some 71 := by kernel_rfl
theorem td_28 : tdat Try.prog 28 = some ⟨false, 1, 24, .slice none 0 0⟩ := by kernel_rfl
theorem zv_28 : ofV (.slice none 0 0) = .sl .full [] := by kernel_rfl
theorem tel_28 : tel Try.prog 28 = some 44 := by kernel_rfl
theorem td_29 : tdat Try.prog 29 = some ⟨true, 2, 48, .agg #[.slice none 0 0, .slice none 0 0]⟩ := by kernel_rfl
theorem zv_29 : ofV (.agg #[.slice none 0 0, .slice none 0 0]) = .ag [.sl .full [], .sl .full []] := by kernel_rfl
theorem tf_29 : tflds Try.prog 29 = some [(0, 1, false), (1, 1, false)] := by kernel_rfl
theorem td_30 : tdat Try.prog 30 = some ⟨true, 2, 48, .agg #[.slice none 0 0, .slice none 0 0]⟩ := by kernel_rfl
theorem zv_30 : ofV (.agg #[.slice none 0 0, .slice none 0 0]) = .ag [.sl .full [], .sl .full []] := by kernel_rfl
theorem tf_30 : tflds Try.prog 30 = some [(0, 1, false), (1, 1, false)] := by kernel_rfl
theorem nk_31 : nkT Try.prog 31 = some .nkf := by kernel_rfl
theorem nk_32 : nkT Try.prog 32 = some .nkf := by kernel_rfl
theorem td_33 : tdat Try.prog 33 = some ⟨false, 1, 24, .slice none 0 0⟩ := by kernel_rfl
theorem zv_33 : ofV (.slice none 0 0) = .sl .full [] := by kernel_rfl
theorem tel_33 : tel Try.prog 33 = some 9 := by kernel_rfl
theorem td_34 : tdat Try.prog 34 = some ⟨false, 1, 24, .slice none 0 0⟩ := by kernel_rfl
theorem zv_34 : ofV (.slice none 0 0) = .sl .full [] := by kernel_rfl
theorem tel_34 : tel Try.prog 34 = some 54 := by kernel_rfl
theorem nk_36 : nkT Try.prog 36 = some .nkf := by kernel_rfl
theorem td_37 : tdat Try.prog 37 = some ⟨false, 1, 24, .slice none 0 0⟩ := by kernel_rfl
theorem zv_37 : ofV (.slice none 0 0) = .sl .full [] := by kernel_rfl
theorem tel_37 : tel Try.prog 37 = some 85 := by kernel_rfl
theorem td_38 : tdat Try.prog 38 = some ⟨false, 1, 24, .slice none 0 0⟩ := by kernel_rfl
theorem zv_38 : ofV (.slice none 0 0) = .sl .full [] := by kernel_rfl
theorem tel_38 : tel Try.prog 38 = some 90 := by kernel_rfl
theorem td_39 : tdat Try.prog 39 = some ⟨true, 2, 48, .agg #[.slice none 0 0, .slice none 0 0]⟩ := by kernel_rfl
theorem zv_39 : ofV (.agg #[.slice none 0 0, .slice none 0 0]) = .ag [.sl .full [], .sl .full []] := by kernel_rfl
theorem tf_39 : tflds Try.prog 39 = some [(0, 1, false), (1, 1, false)] := by kernel_rfl
theorem td_40 : tdat Try.prog 40 = some ⟨true, 2, 48, .agg #[.slice none 0 0, .slice none 0 0]⟩ := by kernel_rfl
theorem zv_40 : ofV (.agg #[.slice none 0 0, .slice none 0 0]) = .ag [.sl .full [], .sl .full []] := by kernel_rfl
theorem tf_40 : tflds Try.prog 40 = some [(0, 1, false), (1, 1, false)] := by kernel_rfl
theorem td_41 : tdat Try.prog 41 = some ⟨true, 2, 16, .agg #[.int .i64 0, .int .i64 0]⟩ := by kernel_rfl
theorem zv_41 : ofV (.agg #[.int .i64 0, .int .i64 0]) = .ag [.v (.int .i64 0), .v (.int .i64 0)] := by kernel_rfl
theorem tf_41 : tflds Try.prog 41 = some [(0, 1, false), (1, 1, false)] := by kernel_rfl
theorem fl_41 : flat1 Try.prog 41 = some [.ski, .ski] := by kernel_rfl
theorem td_42 : tdat Try.prog 42 = some ⟨true, 2, 16, .agg #[.int .i64 0, .int .i64 0]⟩ := by kernel_rfl
theorem zv_42 : ofV (.agg #[.int .i64 0, .int .i64 0]) = .ag [.v (.int .i64 0), .v (.int .i64 0)] := by kernel_rfl
theorem tf_42 : tflds Try.prog 42 = some [(0, 1, false), (1, 1, false)] := by kernel_rfl
theorem fl_42 : flat1 Try.prog 42 = some [.ski, .ski] := by kernel_rfl
theorem td_43 : tdat Try.prog 43 = some ⟨true, 7, 128, .agg #[.string ⟨#[]⟩, .slice none 0 0, .slice none 0 0, .slice none 0 0, .slice none 0 0, .int .i64 0, .int .i64 0]⟩ := by kernel_rfl
theorem zv_43 : ofV (.agg #[.string ⟨#[]⟩, .slice none 0 0, .slice none 0 0, .slice none 0 0, .slice none 0 0, .int .i64 0, .int .i64 0]) = .ag [.v (.string ⟨#[]⟩), .sl .full [], .sl .full [], .sl .full [], .sl .full [], .v (.int .i64 0), .v (.int .i64 0)] := by kernel_rfl
theorem tf_43 : tflds Try.prog 43 = some [(0, 1, false), (1, 1, false), (2, 1, false), (3, 2, true), (5, 2, true)] := by kernel_rfl
theorem td_44 : tdat Try.prog 44 = some ⟨true, 7, 128, .agg #[.string ⟨#[]⟩, .slice none 0 0, .slice none 0 0, .slice none 0 0, .slice none 0 0, .int .i64 0, .int .i64 0]⟩ := by kernel_rfl
theorem zv_44 : ofV (.agg #[.string ⟨#[]⟩, .slice none 0 0, .slice none 0 0, .slice none 0 0, .slice none 0 0, .int .i64 0, .int .i64 0]) = .ag [.v (.string ⟨#[]⟩), .sl .full [], .sl .full [], .sl .full [], .sl .full [], .v (.int .i64 0), .v (.int .i64 0)] := by kernel_rfl
theorem tf_44 : tflds Try.prog 44 = some [(0, 1, false), (1, 1, false), (2, 1, false), (3, 2, true), (5, 2, true)] := by kernel_rfl
theorem nk_45 : nkT Try.prog 45 = some .nkp := by kernel_rfl
theorem td_45 : tdat Try.prog 45 = some ⟨false, 1, 8, .pointer none⟩ := by kernel_rfl
theorem zv_45 : ofV (.pointer none) = .v (.pointer none) := by kernel_rfl
theorem nk_46 : nkT Try.prog 46 = some .nkf := by kernel_rfl
theorem nk_47 : nkT Try.prog 47 = some .nkf := by kernel_rfl
theorem td_48 : tdat Try.prog 48 = some ⟨false, 1, 24, .slice none 0 0⟩ := by kernel_rfl
theorem zv_48 : ofV (.slice none 0 0) = .sl .full [] := by kernel_rfl
theorem tel_48 : tel Try.prog 48 = some 42 := by kernel_rfl
theorem td_49 : tdat Try.prog 49 = some ⟨false, 1, 24, .slice none 0 0⟩ := by kernel_rfl
theorem zv_49 : ofV (.slice none 0 0) = .sl .full [] := by kernel_rfl
theorem tel_49 : tel Try.prog 49 = some 53 := by kernel_rfl
theorem td_50 : tdat Try.prog 50 = some ⟨false, 1, 24, .slice none 0 0⟩ := by kernel_rfl
theorem zv_50 : ofV (.slice none 0 0) = .sl .full [] := by kernel_rfl
theorem tel_50 : tel Try.prog 50 = some 87 := by kernel_rfl
theorem td_51 : tdat Try.prog 51 = some ⟨true, 4, 96, .agg #[.slice none 0 0, .slice none 0 0, .slice none 0 0, .slice none 0 0]⟩ := by kernel_rfl
theorem zv_51 : ofV (.agg #[.slice none 0 0, .slice none 0 0, .slice none 0 0, .slice none 0 0]) = .ag [.sl .full [], .sl .full [], .sl .full [], .sl .full []] := by kernel_rfl
theorem tf_51 : tflds Try.prog 51 = some [(0, 1, false), (1, 1, false), (2, 1, false), (3, 1, false)] := by kernel_rfl
theorem td_52 : tdat Try.prog 52 = some ⟨true, 4, 96, .agg #[.slice none 0 0, .slice none 0 0, .slice none 0 0, .slice none 0 0]⟩ := by kernel_rfl
theorem zv_52 : ofV (.agg #[.slice none 0 0, .slice none 0 0, .slice none 0 0, .slice none 0 0]) = .ag [.sl .full [], .sl .full [], .sl .full [], .sl .full []] := by kernel_rfl
theorem tf_52 : tflds Try.prog 52 = some [(0, 1, false), (1, 1, false), (2, 1, false), (3, 1, false)] := by kernel_rfl
theorem td_53 : tdat Try.prog 53 = some ⟨false, 1, 24, .slice none 0 0⟩ := by kernel_rfl
theorem zv_53 : ofV (.slice none 0 0) = .sl .full [] := by kernel_rfl
theorem tel_53 : tel Try.prog 53 = some 4 := by kernel_rfl
theorem td_54 : tdat Try.prog 54 = some ⟨false, 1, 24, .slice none 0 0⟩ := by kernel_rfl
theorem zv_54 : ofV (.slice none 0 0) = .sl .full [] := by kernel_rfl
theorem tel_54 : tel Try.prog 54 = some 3 := by kernel_rfl
theorem nk_55 : nkT Try.prog 55 = some .nkf := by kernel_rfl
theorem td_56 : tdat Try.prog 56 = some ⟨false, 1, 8, .int .i64 0⟩ := by kernel_rfl
theorem zv_56 : ofV (.int .i64 0) = .v (.int .i64 0) := by kernel_rfl
theorem nk_57 : nkT Try.prog 57 = some .nkf := by kernel_rfl
theorem nk_58 : nkT Try.prog 58 = some .nkp := by kernel_rfl
theorem td_58 : tdat Try.prog 58 = some ⟨false, 1, 8, .pointer none⟩ := by kernel_rfl
theorem zv_58 : ofV (.pointer none) = .v (.pointer none) := by kernel_rfl
theorem nk_59 : nkT Try.prog 59 = some .nkf := by kernel_rfl
theorem td_60 : tdat Try.prog 60 = some ⟨false, 1, 24, .slice none 0 0⟩ := by kernel_rfl
theorem zv_60 : ofV (.slice none 0 0) = .sl .full [] := by kernel_rfl
theorem tel_60 : tel Try.prog 60 = some 64 := by kernel_rfl
theorem td_61 : tdat Try.prog 61 = some ⟨true, 1, 24, .agg #[.slice none 0 0]⟩ := by kernel_rfl
theorem zv_61 : ofV (.agg #[.slice none 0 0]) = .ag [.sl .full []] := by kernel_rfl
theorem tf_61 : tflds Try.prog 61 = some [(0, 1, false)] := by kernel_rfl
theorem td_62 : tdat Try.prog 62 = some ⟨true, 1, 24, .agg #[.slice none 0 0]⟩ := by kernel_rfl
theorem zv_62 : ofV (.agg #[.slice none 0 0]) = .ag [.sl .full []] := by kernel_rfl
theorem tf_62 : tflds Try.prog 62 = some [(0, 1, false)] := by kernel_rfl
theorem td_63 : tdat Try.prog 63 = some ⟨true, 4, 56, .agg #[.string ⟨#[]⟩, .int .i64 0, .int .i64 0, .slice none 0 0]⟩ := by kernel_rfl
theorem zv_63 : ofV (.agg #[.string ⟨#[]⟩, .int .i64 0, .int .i64 0, .slice none 0 0]) = .ag [.v (.string ⟨#[]⟩), .v (.int .i64 0), .v (.int .i64 0), .sl .full []] := by kernel_rfl
theorem tf_63 : tflds Try.prog 63 = some [(0, 1, false), (1, 2, true), (3, 1, false)] := by kernel_rfl
theorem td_64 : tdat Try.prog 64 = some ⟨true, 4, 56, .agg #[.string ⟨#[]⟩, .int .i64 0, .int .i64 0, .slice none 0 0]⟩ := by kernel_rfl
theorem zv_64 : ofV (.agg #[.string ⟨#[]⟩, .int .i64 0, .int .i64 0, .slice none 0 0]) = .ag [.v (.string ⟨#[]⟩), .v (.int .i64 0), .v (.int .i64 0), .sl .full []] := by kernel_rfl
theorem tf_64 : tflds Try.prog 64 = some [(0, 1, false), (1, 2, true), (3, 1, false)] := by kernel_rfl
theorem nk_65 : nkT Try.prog 65 = some .nkf := by kernel_rfl
theorem nk_66 : nkT Try.prog 66 = some .nkf := by kernel_rfl
theorem nk_67 : nkT Try.prog 67 = some .nkp := by kernel_rfl
theorem td_67 : tdat Try.prog 67 = some ⟨false, 1, 8, .pointer none⟩ := by kernel_rfl
theorem zv_67 : ofV (.pointer none) = .v (.pointer none) := by kernel_rfl
theorem td_68 : tdat Try.prog 68 = some ⟨true, 2, 32, .agg #[.slice none 0 0, .int .i64 0]⟩ := by kernel_rfl
theorem zv_68 : ofV (.agg #[.slice none 0 0, .int .i64 0]) = .ag [.sl .full [], .v (.int .i64 0)] := by kernel_rfl
theorem tf_68 : tflds Try.prog 68 = some [(0, 1, false), (1, 1, false)] := by kernel_rfl
theorem td_69 : tdat Try.prog 69 = some ⟨true, 2, 32, .agg #[.slice none 0 0, .int .i64 0]⟩ := by kernel_rfl
theorem zv_69 : ofV (.agg #[.slice none 0 0, .int .i64 0]) = .ag [.sl .full [], .v (.int .i64 0)] := by kernel_rfl
theorem tf_69 : tflds Try.prog 69 = some [(0, 1, false), (1, 1, false)] := by kernel_rfl
theorem td_70 : tdat Try.prog 70 = some ⟨true, 4, 56, .agg #[.string ⟨#[]⟩, .slice none 0 0, .int .i64 0, .int .i64 0]⟩ := by kernel_rfl
theorem zv_70 : ofV (.agg #[.string ⟨#[]⟩, .slice none 0 0, .int .i64 0, .int .i64 0]) = .ag [.v (.string ⟨#[]⟩), .sl .full [], .v (.int .i64 0), .v (.int .i64 0)] := by kernel_rfl
theorem tf_70 : tflds Try.prog 70 = some [(0, 1, false), (1, 1, false), (2, 2, true)] := by kernel_rfl
theorem td_71 : tdat Try.prog 71 = some ⟨true, 4, 56, .agg #[.string ⟨#[]⟩, .slice none 0 0, .int .i64 0, .int .i64 0]⟩ := by kernel_rfl
theorem zv_71 : ofV (.agg #[.string ⟨#[]⟩, .slice none 0 0, .int .i64 0, .int .i64 0]) = .ag [.v (.string ⟨#[]⟩), .sl .full [], .v (.int .i64 0), .v (.int .i64 0)] := by kernel_rfl
theorem tf_71 : tflds Try.prog 71 = some [(0, 1, false), (1, 1, false), (2, 2, true)] := by kernel_rfl
theorem nk_72 : nkT Try.prog 72 = some .nkf := by kernel_rfl
theorem nk_73 : nkT Try.prog 73 = some .nkp := by kernel_rfl
theorem td_73 : tdat Try.prog 73 = some ⟨false, 1, 8, .pointer none⟩ := by kernel_rfl
theorem zv_73 : ofV (.pointer none) = .v (.pointer none) := by kernel_rfl
theorem td_74 : tdat Try.prog 74 = some ⟨true, 5, 40, .agg #[.pointer none, .int .i64 0, .int .i64 0, .int .i64 0, .bool false]⟩ := by kernel_rfl
theorem zv_74 : ofV (.agg #[.pointer none, .int .i64 0, .int .i64 0, .int .i64 0, .bool false]) = .ag [.v (.pointer none), .v (.int .i64 0), .v (.int .i64 0), .v (.int .i64 0), .v (.bool false)] := by kernel_rfl
theorem tf_74 : tflds Try.prog 74 = some [(0, 1, false), (1, 1, false), (2, 1, false), (3, 1, false), (4, 1, false)] := by kernel_rfl
theorem td_75 : tdat Try.prog 75 = some ⟨true, 5, 40, .agg #[.pointer none, .int .i64 0, .int .i64 0, .int .i64 0, .bool false]⟩ := by kernel_rfl
theorem zv_75 : ofV (.agg #[.pointer none, .int .i64 0, .int .i64 0, .int .i64 0, .bool false]) = .ag [.v (.pointer none), .v (.int .i64 0), .v (.int .i64 0), .v (.int .i64 0), .v (.bool false)] := by kernel_rfl
theorem tf_75 : tflds Try.prog 75 = some [(0, 1, false), (1, 1, false), (2, 1, false), (3, 1, false), (4, 1, false)] := by kernel_rfl
theorem nk_76 : nkT Try.prog 76 = some .nkf := by kernel_rfl
theorem nk_77 : nkT Try.prog 77 = some .nkf := by kernel_rfl
theorem td_78 : tdat Try.prog 78 = some ⟨true, 2, 24, .agg #[.int .u8 0, .string ⟨#[]⟩]⟩ := by kernel_rfl
theorem zv_78 : ofV (.agg #[.int .u8 0, .string ⟨#[]⟩]) = .ag [.v (.int .u8 0), .v (.string ⟨#[]⟩)] := by kernel_rfl
theorem tf_78 : tflds Try.prog 78 = some [(0, 1, false), (1, 1, false)] := by kernel_rfl
theorem fl_78 : flat1 Try.prog 78 = some [.ski, .sks] := by kernel_rfl
theorem td_79 : tdat Try.prog 79 = some ⟨true, 2, 24, .agg #[.int .u8 0, .string ⟨#[]⟩]⟩ := by kernel_rfl
theorem zv_79 : ofV (.agg #[.int .u8 0, .string ⟨#[]⟩]) = .ag [.v (.int .u8 0), .v (.string ⟨#[]⟩)] := by kernel_rfl
theorem tf_79 : tflds Try.prog 79 = some [(0, 1, false), (1, 1, false)] := by kernel_rfl
theorem fl_79 : flat1 Try.prog 79 = some [.ski, .sks] := by kernel_rfl
theorem td_80 : tdat Try.prog 80 = some ⟨false, 1, 24, .slice none 0 0⟩ := by kernel_rfl
theorem zv_80 : ofV (.slice none 0 0) = .sl .full [] := by kernel_rfl
theorem tel_80 : tel Try.prog 80 = some 110 := by kernel_rfl
theorem td_81 : tdat Try.prog 81 = some ⟨false, 1, 24, .slice none 0 0⟩ := by kernel_rfl
theorem zv_81 : ofV (.slice none 0 0) = .sl .full [] := by kernel_rfl
theorem tel_81 : tel Try.prog 81 = some 83 := by kernel_rfl
theorem td_82 : tdat Try.prog 82 = some ⟨true, 8, 88, .agg #[.int .u8 0, .int .u8 0, .int .i32 0, .string ⟨#[]⟩, .slice none 0 0, .slice none 0 0, .int .i64 0, .int .i64 0]⟩ := by kernel_rfl
theorem zv_82 : ofV (.agg #[.int .u8 0, .int .u8 0, .int .i32 0, .string ⟨#[]⟩, .slice none 0 0, .slice none 0 0, .int .i64 0, .int .i64 0]) = .ag [.v (.int .u8 0), .v (.int .u8 0), .v (.int .i32 0), .v (.string ⟨#[]⟩), .sl .full [], .sl .full [], .v (.int .i64 0), .v (.int .i64 0)] := by kernel_rfl
theorem tf_82 : tflds Try.prog 82 = some [(0, 1, false), (1, 1, false), (2, 1, false), (3, 1, false), (4, 1, false), (5, 1, false), (6, 2, true)] := by kernel_rfl
theorem td_83 : tdat Try.prog 83 = some ⟨true, 8, 88, .agg #[.int .u8 0, .int .u8 0, .int .i32 0, .string ⟨#[]⟩, .slice none 0 0, .slice none 0 0, .int .i64 0, .int .i64 0]⟩ := by kernel_rfl
theorem zv_83 : ofV (.agg #[.int .u8 0, .int .u8 0, .int .i32 0, .string ⟨#[]⟩, .slice none 0 0, .slice none 0 0, .int .i64 0, .int .i64 0]) = .ag [.v (.int .u8 0), .v (.int .u8 0), .v (.int .i32 0), .v (.string ⟨#[]⟩), .sl .full [], .sl .full [], .v (.int .i64 0), .v (.int .i64 0)] := by kernel_rfl
theorem tf_83 : tflds Try.prog 83 = some [(0, 1, false), (1, 1, false), (2, 1, false), (3, 1, false), (4, 1, false), (5, 1, false), (6, 2, true)] := by kernel_rfl
theorem td_84 : tdat Try.prog 84 = some ⟨true, 15, 176, .agg #[.string ⟨#[]⟩, .int .u8 0, .string ⟨#[]⟩, .slice none 0 0, .bool false, .int .u8 0, .int .u8 0, .int .i32 0, .string ⟨#[]⟩, .slice none 0 0, .slice none 0 0, .int .i64 0, .int .i64 0, .int .i64 0, .int .i64 0]⟩ := by kernel_rfl
theorem zv_84 : ofV (.agg #[.string ⟨#[]⟩, .int .u8 0, .string ⟨#[]⟩, .slice none 0 0, .bool false, .int .u8 0, .int .u8 0, .int .i32 0, .string ⟨#[]⟩, .slice none 0 0, .slice none 0 0, .int .i64 0, .int .i64 0, .int .i64 0, .int .i64 0]) = .ag [.v (.string ⟨#[]⟩), .v (.int .u8 0), .v (.string ⟨#[]⟩), .sl .full [], .v (.bool false), .v (.int .u8 0), .v (.int .u8 0), .v (.int .i32 0), .v (.string ⟨#[]⟩), .sl .full [], .sl .full [], .v (.int .i64 0), .v (.int .i64 0), .v (.int .i64 0), .v (.int .i64 0)] := by kernel_rfl
theorem tf_84 : tflds Try.prog 84 = some [(0, 1, false), (1, 2, true), (3, 1, false), (4, 1, false), (5, 8, true), (13, 2, true)] := by kernel_rfl
theorem td_85 : tdat Try.prog 85 = some ⟨true, 15, 176, .agg #[.string ⟨#[]⟩, .int .u8 0, .string ⟨#[]⟩, .slice none 0 0, .bool false, .int .u8 0, .int .u8 0, .int .i32 0, .string ⟨#[]⟩, .slice none 0 0, .slice none 0 0, .int .i64 0, .int .i64 0, .int .i64 0, .int .i64 0]⟩ := by kernel_rfl
theorem zv_85 : ofV (.agg #[.string ⟨#[]⟩, .int .u8 0, .string ⟨#[]⟩, .slice none 0 0, .bool false, .int .u8 0, .int .u8 0, .int .i32 0, .string ⟨#[]⟩, .slice none 0 0, .slice none 0 0, .int .i64 0, .int .i64 0, .int .i64 0, .int .i64 0]) = .ag [.v (.string ⟨#[]⟩), .v (.int .u8 0), .v (.string ⟨#[]⟩), .sl .full [], .v (.bool false), .v (.int .u8 0), .v (.int .u8 0), .v (.int .i32 0), .v (.string ⟨#[]⟩), .sl .full [], .sl .full [], .v (.int .i64 0), .v (.int .i64 0), .v (.int .i64 0), .v (.int .i64 0)] := by kernel_rfl
theorem tf_85 : tflds Try.prog 85 = some [(0, 1, false), (1, 2, true), (3, 1, false), (4, 1, false), (5, 8, true), (13, 2, true)] := by kernel_rfl
theorem nk_86 : nkT Try.prog 86 = some .nkf := by kernel_rfl
theorem td_87 : tdat Try.prog 87 = some ⟨true, 2, 16, .agg #[.int .i64 0, .int .i64 0]⟩ := by kernel_rfl
theorem zv_87 : ofV (.agg #[.int .i64 0, .int .i64 0]) = .ag [.v (.int .i64 0), .v (.int .i64 0)] := by kernel_rfl
theorem tf_87 : tflds Try.prog 87 = none := by kernel_rfl
theorem tel_87 : tel Try.prog 87 = none := by kernel_rfl
theorem ta_87 : tarr Try.prog 87 = some (2, 3) := by kernel_rfl
theorem td_88 : tdat Try.prog 88 = some ⟨false, 1, 24, .slice none 0 0⟩ := by kernel_rfl
theorem zv_88 : ofV (.slice none 0 0) = .sl .full [] := by kernel_rfl
theorem tel_88 : tel Try.prog 88 = some 113 := by kernel_rfl
theorem td_89 : tdat Try.prog 89 = some ⟨true, 16, 208, .agg #[.int .u8 0, .slice none 0 0, .string ⟨#[]⟩, .slice none 0 0, .bool false, .int .u8 0, .int .u8 0, .int .i32 0, .string ⟨#[]⟩, .slice none 0 0, .slice none 0 0, .int .i64 0, .int .i64 0, .slice none 0 0, .int .i64 0, .int .i64 0]⟩ := by kernel_rfl
theorem zv_89 : ofV (.agg #[.int .u8 0, .slice none 0 0, .string ⟨#[]⟩, .slice none 0 0, .bool false, .int .u8 0, .int .u8 0, .int .i32 0, .string ⟨#[]⟩, .slice none 0 0, .slice none 0 0, .int .i64 0, .int .i64 0, .slice none 0 0, .int .i64 0, .int .i64 0]) = .ag [.v (.int .u8 0), .sl .full [], .v (.string ⟨#[]⟩), .sl .full [], .v (.bool false), .v (.int .u8 0), .v (.int .u8 0), .v (.int .i32 0), .v (.string ⟨#[]⟩), .sl .full [], .sl .full [], .v (.int .i64 0), .v (.int .i64 0), .sl .full [], .v (.int .i64 0), .v (.int .i64 0)] := by kernel_rfl
theorem tf_89 : tflds Try.prog 89 = some [(0, 1, false), (1, 1, false), (2, 1, false), (3, 1, false), (4, 1, false), (5, 8, true), (13, 1, false), (14, 2, true)] := by kernel_rfl
theorem td_90 : tdat Try.prog 90 = some ⟨true, 16, 208, .agg #[.int .u8 0, .slice none 0 0, .string ⟨#[]⟩, .slice none 0 0, .bool false, .int .u8 0, .int .u8 0, .int .i32 0, .string ⟨#[]⟩, .slice none 0 0, .slice none 0 0, .int .i64 0, .int .i64 0, .slice none 0 0, .int .i64 0, .int .i64 0]⟩ := by kernel_rfl
theorem zv_90 : ofV (.agg #[.int .u8 0, .slice none 0 0, .string ⟨#[]⟩, .slice none 0 0, .bool false, .int .u8 0, .int .u8 0, .int .i32 0, .string ⟨#[]⟩, .slice none 0 0, .slice none 0 0, .int .i64 0, .int .i64 0, .slice none 0 0, .int .i64 0, .int .i64 0]) = .ag [.v (.int .u8 0), .sl .full [], .v (.string ⟨#[]⟩), .sl .full [], .v (.bool false), .v (.int .u8 0), .v (.int .u8 0), .v (.int .i32 0), .v (.string ⟨#[]⟩), .sl .full [], .sl .full [], .v (.int .i64 0), .v (.int .i64 0), .sl .full [], .v (.int .i64 0), .v (.int .i64 0)] := by kernel_rfl
theorem tf_90 : tflds Try.prog 90 = some [(0, 1, false), (1, 1, false), (2, 1, false), (3, 1, false), (4, 1, false), (5, 8, true), (13, 1, false), (14, 2, true)] := by kernel_rfl
theorem nk_91 : nkT Try.prog 91 = some .nkf := by kernel_rfl
theorem nk_92 : nkT Try.prog 92 = some .nkf := by kernel_rfl
theorem td_93 : tdat Try.prog 93 = some ⟨false, 1, 24, .slice none 0 0⟩ := by kernel_rfl
theorem zv_93 : ofV (.slice none 0 0) = .sl .full [] := by kernel_rfl
theorem tel_93 : tel Try.prog 93 = some 3 := by kernel_rfl
theorem nk_94 : nkT Try.prog 94 = some .nkf := by kernel_rfl
theorem nk_95 : nkT Try.prog 95 = some .nkf := by kernel_rfl
theorem nk_96 : nkT Try.prog 96 = some .nkf := by kernel_rfl
theorem nk_97 : nkT Try.prog 97 = some .nkf := by kernel_rfl
theorem nk_98 : nkT Try.prog 98 = some .nkp := by kernel_rfl
theorem td_98 : tdat Try.prog 98 = some ⟨false, 1, 8, .pointer none⟩ := by kernel_rfl
theorem zv_98 : ofV (.pointer none) = .v (.pointer none) := by kernel_rfl
theorem td_99 : tdat Try.prog 99 = some ⟨true, 5, 56, .agg #[.int .i64 0, .int .i64 0, .string ⟨#[]⟩, .bool false, .nilIface]⟩ := by kernel_rfl
theorem zv_99 : ofV (.agg #[.int .i64 0, .int .i64 0, .string ⟨#[]⟩, .bool false, .nilIface]) = .ag [.v (.int .i64 0), .v (.int .i64 0), .v (.string ⟨#[]⟩), .v (.bool false), .v .nilIface] := by kernel_rfl
theorem tf_99 : tflds Try.prog 99 = some [(0, 2, true), (2, 1, false), (3, 1, false), (4, 1, false)] := by kernel_rfl
theorem td_100 : tdat Try.prog 100 = some ⟨true, 5, 56, .agg #[.int .i64 0, .int .i64 0, .string ⟨#[]⟩, .bool false, .nilIface]⟩ := by kernel_rfl
theorem zv_100 : ofV (.agg #[.int .i64 0, .int .i64 0, .string ⟨#[]⟩, .bool false, .nilIface]) = .ag [.v (.int .i64 0), .v (.int .i64 0), .v (.string ⟨#[]⟩), .v (.bool false), .v .nilIface] := by kernel_rfl
theorem tf_100 : tflds Try.prog 100 = some [(0, 2, true), (2, 1, false), (3, 1, false), (4, 1, false)] := by kernel_rfl
theorem nk_101 : nkT Try.prog 101 = some .nkf := by kernel_rfl
theorem nk_102 : nkT Try.prog 102 = some .nkf := by kernel_rfl
theorem nk_103 : nkT Try.prog 103 = some .nkf := by kernel_rfl
theorem td_104 : tdat Try.prog 104 = some ⟨true, 3, 72, .agg #[.slice none 0 0, .slice none 0 0, .slice none 0 0]⟩ := by kernel_rfl
theorem zv_104 : ofV (.agg #[.slice none 0 0, .slice none 0 0, .slice none 0 0]) = .ag [.sl .full [], .sl .full [], .sl .full []] := by kernel_rfl
theorem tf_104 : tflds Try.prog 104 = some [(0, 1, false), (1, 1, false), (2, 1, false)] := by kernel_rfl
theorem td_105 : tdat Try.prog 105 = some ⟨true, 3, 72, .agg #[.slice none 0 0, .slice none 0 0, .slice none 0 0]⟩ := by kernel_rfl
theorem zv_105 : ofV (.agg #[.slice none 0 0, .slice none 0 0, .slice none 0 0]) = .ag [.sl .full [], .sl .full [], .sl .full []] := by kernel_rfl
theorem tf_105 : tflds Try.prog 105 = some [(0, 1, false), (1, 1, false), (2, 1, false)] := by kernel_rfl
theorem nk_106 : nkT Try.prog 106 = some .nkf := by kernel_rfl
theorem nk_107 : nkT Try.prog 107 = some .nkf := by kernel_rfl
theorem nk_108 : nkT Try.prog 108 = some .nkf := by kernel_rfl
theorem td_109 : tdat Try.prog 109 = some ⟨true, 2, 32, .agg #[.string ⟨#[]⟩, .string ⟨#[]⟩]⟩ := by kernel_rfl
theorem zv_109 : ofV (.agg #[.string ⟨#[]⟩, .string ⟨#[]⟩]) = .ag [.v (.string ⟨#[]⟩), .v (.string ⟨#[]⟩)] := by kernel_rfl
theorem tf_109 : tflds Try.prog 109 = some [(0, 1, false), (1, 1, false)] := by kernel_rfl
theorem fl_109 : flat1 Try.prog 109 = some [.sks, .sks] := by kernel_rfl
theorem td_110 : tdat Try.prog 110 = some ⟨true, 2, 32, .agg #[.string ⟨#[]⟩, .string ⟨#[]⟩]⟩ := by kernel_rfl
theorem zv_110 : ofV (.agg #[.string ⟨#[]⟩, .string ⟨#[]⟩]) = .ag [.v (.string ⟨#[]⟩), .v (.string ⟨#[]⟩)] := by kernel_rfl
theorem tf_110 : tflds Try.prog 110 = some [(0, 1, false), (1, 1, false)] := by kernel_rfl
theorem fl_110 : flat1 Try.prog 110 = some [.sks, .sks] := by kernel_rfl
theorem td_111 : tdat Try.prog 111 = some ⟨false, 1, 24, .slice none 0 0⟩ := by kernel_rfl
theorem zv_111 : ofV (.slice none 0 0) = .sl .full [] := by kernel_rfl
theorem tel_111 : tel Try.prog 111 = some 116 := by kernel_rfl
theorem td_112 : tdat Try.prog 112 = some ⟨true, 7, 128, .agg #[.string ⟨#[]⟩, .slice none 0 0, .slice none 0 0, .slice none 0 0, .slice none 0 0, .int .i64 0, .int .i64 0]⟩ := by kernel_rfl
theorem zv_112 : ofV (.agg #[.string ⟨#[]⟩, .slice none 0 0, .slice none 0 0, .slice none 0 0, .slice none 0 0, .int .i64 0, .int .i64 0]) = .ag [.v (.string ⟨#[]⟩), .sl .full [], .sl .full [], .sl .full [], .sl .full [], .v (.int .i64 0), .v (.int .i64 0)] := by kernel_rfl
theorem tf_112 : tflds Try.prog 112 = some [(0, 1, false), (1, 2, true), (3, 1, false), (4, 1, false), (5, 2, true)] := by kernel_rfl
theorem td_113 : tdat Try.prog 113 = some ⟨true, 7, 128, .agg #[.string ⟨#[]⟩, .slice none 0 0, .slice none 0 0, .slice none 0 0, .slice none 0 0, .int .i64 0, .int .i64 0]⟩ := by kernel_rfl
theorem zv_113 : ofV (.agg #[.string ⟨#[]⟩, .slice none 0 0, .slice none 0 0, .slice none 0 0, .slice none 0 0, .int .i64 0, .int .i64 0]) = .ag [.v (.string ⟨#[]⟩), .sl .full [], .sl .full [], .sl .full [], .sl .full [], .v (.int .i64 0), .v (.int .i64 0)] := by kernel_rfl
theorem tf_113 : tflds Try.prog 113 = some [(0, 1, false), (1, 2, true), (3, 1, false), (4, 1, false), (5, 2, true)] := by kernel_rfl
theorem nk_114 : nkT Try.prog 114 = some .nkf := by kernel_rfl
theorem td_115 : tdat Try.prog 115 = some ⟨true, 12, 128, .agg #[.int .u8 0, .int .u8 0, .int .i32 0, .string ⟨#[]⟩, .slice none 0 0, .slice none 0 0, .int .i64 0, .int .i64 0, .string ⟨#[]⟩, .bool false, .int .i64 0, .int .i64 0]⟩ := by kernel_rfl
theorem zv_115 : ofV (.agg #[.int .u8 0, .int .u8 0, .int .i32 0, .string ⟨#[]⟩, .slice none 0 0, .slice none 0 0, .int .i64 0, .int .i64 0, .string ⟨#[]⟩, .bool false, .int .i64 0, .int .i64 0]) = .ag [.v (.int .u8 0), .v (.int .u8 0), .v (.int .i32 0), .v (.string ⟨#[]⟩), .sl .full [], .sl .full [], .v (.int .i64 0), .v (.int .i64 0), .v (.string ⟨#[]⟩), .v (.bool false), .v (.int .i64 0), .v (.int .i64 0)] := by kernel_rfl
theorem tf_115 : tflds Try.prog 115 = some [(0, 8, true), (8, 1, false), (9, 1, false), (10, 2, true)] := by kernel_rfl
theorem td_116 : tdat Try.prog 116 = some ⟨true, 12, 128, .agg #[.int .u8 0, .int .u8 0, .int .i32 0, .string ⟨#[]⟩, .slice none 0 0, .slice none 0 0, .int .i64 0, .int .i64 0, .string ⟨#[]⟩, .bool false, .int .i64 0, .int .i64 0]⟩ := by kernel_rfl
theorem zv_116 : ofV (.agg #[.int .u8 0, .int .u8 0, .int .i32 0, .string ⟨#[]⟩, .slice none 0 0, .slice none 0 0, .int .i64 0, .int .i64 0, .string ⟨#[]⟩, .bool false, .int .i64 0, .int .i64 0]) = .ag [.v (.int .u8 0), .v (.int .u8 0), .v (.int .i32 0), .v (.string ⟨#[]⟩), .sl .full [], .sl .full [], .v (.int .i64 0), .v (.int .i64 0), .v (.string ⟨#[]⟩), .v (.bool false), .v (.int .i64 0), .v (.int .i64 0)] := by kernel_rfl
theorem tf_116 : tflds Try.prog 116 = some [(0, 8, true), (8, 1, false), (9, 1, false), (10, 2, true)] := by kernel_rfl
theorem nk_117 : nkT Try.prog 117 = some .nkf := by kernel_rfl
theorem nk_118 : nkT Try.prog 118 = some .nkp := by kernel_rfl
theorem td_118 : tdat Try.prog 118 = some ⟨false, 1, 8, .pointer none⟩ := by kernel_rfl
theorem zv_118 : ofV (.pointer none) = .v (.pointer none) := by kernel_rfl
theorem td_119 : tdat Try.prog 119 = some ⟨true, 1, 8, .agg #[.int .i64 0]⟩ := by kernel_rfl
theorem zv_119 : ofV (.agg #[.int .i64 0]) = .ag [.v (.int .i64 0)] := by kernel_rfl
theorem tf_119 : tflds Try.prog 119 = some [(0, 1, false)] := by kernel_rfl
theorem fl_119 : flat1 Try.prog 119 = some [.ski] := by kernel_rfl
theorem td_120 : tdat Try.prog 120 = some ⟨true, 1, 8, .agg #[.int .i64 0]⟩ := by kernel_rfl
theorem zv_120 : ofV (.agg #[.int .i64 0]) = .ag [.v (.int .i64 0)] := by kernel_rfl
theorem tf_120 : tflds Try.prog 120 = some [(0, 1, false)] := by kernel_rfl
theorem fl_120 : flat1 Try.prog 120 = some [.ski] := by kernel_rfl
theorem nk_121 : nkT Try.prog 121 = some .nkf := by kernel_rfl
theorem nk_122 : nkT Try.prog 122 = some .nkf := by kernel_rfl
theorem nk_123 : nkT Try.prog 123 = some .nkf := by kernel_rfl
theorem nk_124 : nkT Try.prog 124 = some .nki := by kernel_rfl
theorem td_124 : tdat Try.prog 124 = some ⟨false, 1, 16, .nilIface⟩ := by kernel_rfl
theorem zv_124 : ofV (.nilIface) = .v .nilIface := by kernel_rfl
theorem nk_125 : nkT Try.prog 125 = some .nki := by kernel_rfl
theorem td_125 : tdat Try.prog 125 = some ⟨false, 1, 16, .nilIface⟩ := by kernel_rfl
theorem zv_125 : ofV (.nilIface) = .v .nilIface := by kernel_rfl
theorem nk_126 : nkT Try.prog 126 = some .nkf := by kernel_rfl
theorem nk_127 : nkT Try.prog 127 = some .nkf := by kernel_rfl
theorem td_128 : tdat Try.prog 128 = some ⟨false, 1, 24, .slice none 0 0⟩ := by kernel_rfl
theorem zv_128 : ofV (.slice none 0 0) = .sl .full [] := by kernel_rfl
theorem tel_128 : tel Try.prog 128 = some 37 := by kernel_rfl
theorem nk_129 : nkT Try.prog 129 = some .nkf := by kernel_rfl
theorem nk_130 : nkT Try.prog 130 = some .nkf := by kernel_rfl
theorem nk_131 : nkT Try.prog 131 = some .nkf := by kernel_rfl
theorem nk_132 : nkT Try.prog 132 = some .nkf := by kernel_rfl
theorem nk_133 : nkT Try.prog 133 = some .nkf := by kernel_rfl
theorem td_134 : tdat Try.prog 134 = some ⟨false, 1, 24, .slice none 0 0⟩ := by kernel_rfl
theorem zv_134 : ofV (.slice none 0 0) = .sl .full [] := by kernel_rfl
theorem tel_134 : tel Try.prog 134 = some 21 := by kernel_rfl
theorem nk_135 : nkT Try.prog 135 = some .nkf := by kernel_rfl
theorem nk_136 : nkT Try.prog 136 = some .nkf := by kernel_rfl
theorem nk_138 : nkT Try.prog 138 = some .nkf := by kernel_rfl
theorem nk_139 : nkT Try.prog 139 = some .nkf := by kernel_rfl
theorem nk_140 : nkT Try.prog 140 = some .nkf := by kernel_rfl
theorem nk_141 : nkT Try.prog 141 = some .nkf := by kernel_rfl
theorem nk_142 : nkT Try.prog 142 = some .nkf := by kernel_rfl
theorem nk_143 : nkT Try.prog 143 = some .nkf := by kernel_rfl
theorem nk_144 : nkT Try.prog 144 = some .nkf := by kernel_rfl
theorem td_145 : tdat Try.prog 145 = some ⟨true, 1, 8, .agg #[.pointer none]⟩ := by kernel_rfl
theorem zv_145 : ofV (.agg #[.pointer none]) = .ag [.v (.pointer none)] := by kernel_rfl
theorem tf_145 : tflds Try.prog 145 = some [(0, 1, false)] := by kernel_rfl
theorem td_146 : tdat Try.prog 146 = some ⟨true, 1, 8, .agg #[.pointer none]⟩ := by kernel_rfl
theorem zv_146 : ofV (.agg #[.pointer none]) = .ag [.v (.pointer none)] := by kernel_rfl
theorem tf_146 : tflds Try.prog 146 = some [(0, 1, false)] := by kernel_rfl
theorem nk_147 : nkT Try.prog 147 = some .nkp := by kernel_rfl
theorem td_147 : tdat Try.prog 147 = some ⟨false, 1, 8, .pointer none⟩ := by kernel_rfl
theorem zv_147 : ofV (.pointer none) = .v (.pointer none) := by kernel_rfl
theorem nk_148 : nkT Try.prog 148 = some .nki := by kernel_rfl
theorem td_148 : tdat Try.prog 148 = some ⟨false, 1, 16, .nilIface⟩ := by kernel_rfl
theorem zv_148 : ofV (.nilIface) = .v .nilIface := by kernel_rfl
theorem nk_150 : nkT Try.prog 150 = some .nkf := by kernel_rfl
theorem nk_151 : nkT Try.prog 151 = some .nki := by kernel_rfl
theorem td_151 : tdat Try.prog 151 = some ⟨false, 1, 16, .nilIface⟩ := by kernel_rfl
theorem zv_151 : ofV (.nilIface) = .v .nilIface := by kernel_rfl
theorem nk_152 : nkT Try.prog 152 = some .nkf := by kernel_rfl
theorem nk_153 : nkT Try.prog 153 = some .nki := by kernel_rfl
theorem td_153 : tdat Try.prog 153 = some ⟨false, 1, 16, .nilIface⟩ := by kernel_rfl
theorem zv_153 : ofV (.nilIface) = .v .nilIface := by kernel_rfl
theorem td_154 : tdat Try.prog 154 = some ⟨false, 1, 24, .slice none 0 0⟩ := by kernel_rfl
theorem zv_154 : ofV (.slice none 0 0) = .sl .full [] := by kernel_rfl
theorem tel_154 : tel Try.prog 154 = some 25 := by kernel_rfl
theorem nk_155 : nkT Try.prog 155 = some .nkf := by kernel_rfl
theorem nk_156 : nkT Try.prog 156 = some .nkf := by kernel_rfl
theorem nk_157 : nkT Try.prog 157 = some .nkf := by kernel_rfl
theorem nk_158 : nkT Try.prog 158 = some .nkf := by kernel_rfl
theorem nk_159 : nkT Try.prog 159 = some .nkf := by kernel_rfl
theorem nk_160 : nkT Try.prog 160 = some .nkf := by kernel_rfl
theorem nk_161 : nkT Try.prog 161 = some .nkf := by kernel_rfl
theorem nk_162 : nkT Try.prog 162 = some .nkf := by kernel_rfl
theorem nk_163 : nkT Try.prog 163 = some .nkf := by kernel_rfl
theorem nk_164 : nkT Try.prog 164 = some .nkf := by kernel_rfl
theorem nk_165 : nkT Try.prog 165 = some .nkf := by kernel_rfl
theorem nk_166 : nkT Try.prog 166 = some .nkf := by kernel_rfl
theorem nk_167 : nkT Try.prog 167 = some .nkf := by kernel_rfl
theorem nk_168 : nkT Try.prog 168 = some .nkf := by kernel_rfl
theorem nk_170 : nkT Try.prog 170 = some .nkf := by kernel_rfl
theorem nk_171 : nkT Try.prog 171 = some .nkf := by kernel_rfl
theorem nk_172 : nkT Try.prog 172 = some .nkf := by kernel_rfl
theorem nk_173 : nkT Try.prog 173 = some .nkf := by kernel_rfl
theorem nk_174 : nkT Try.prog 174 = some .nkf := by kernel_rfl
theorem nk_175 : nkT Try.prog 175 = some .nkf := by kernel_rfl
theorem td_176 : tdat Try.prog 176 = some ⟨true, 4, 40, .agg #[.pointer none, .pointer none, .pointer none, .string ⟨#[]⟩]⟩ := by kernel_rfl
theorem zv_176 : ofV (.agg #[.pointer none, .pointer none, .pointer none, .string ⟨#[]⟩]) = .ag [.v (.pointer none), .v (.pointer none), .v (.pointer none), .v (.string ⟨#[]⟩)] := by kernel_rfl
theorem tf_176 : tflds Try.prog 176 = some [(0, 1, false), (1, 1, false), (2, 1, false), (3, 1, false)] := by kernel_rfl
theorem td_177 : tdat Try.prog 177 = some ⟨true, 4, 40, .agg #[.pointer none, .pointer none, .pointer none, .string ⟨#[]⟩]⟩ := by kernel_rfl
theorem zv_177 : ofV (.agg #[.pointer none, .pointer none, .pointer none, .string ⟨#[]⟩]) = .ag [.v (.pointer none), .v (.pointer none), .v (.pointer none), .v (.string ⟨#[]⟩)] := by kernel_rfl
theorem tf_177 : tflds Try.prog 177 = some [(0, 1, false), (1, 1, false), (2, 1, false), (3, 1, false)] := by kernel_rfl
theorem td_178 : tdat Try.prog 178 = some ⟨true, 0, 0, .agg #[]⟩ := by kernel_rfl
theorem zv_178 : ofV (.agg #[]) = .ag [] := by kernel_rfl
theorem tf_178 : tflds Try.prog 178 = none := by kernel_rfl
theorem tel_178 : tel Try.prog 178 = none := by kernel_rfl
theorem ta_178 : tarr Try.prog 178 = some (0, 16) := by kernel_rfl
theorem td_179 : tdat Try.prog 179 = some ⟨true, 0, 0, .agg #[]⟩ := by kernel_rfl
theorem zv_179 : ofV (.agg #[]) = .ag [] := by kernel_rfl
theorem tf_179 : tflds Try.prog 179 = some [(0, 0, true)] := by kernel_rfl
theorem td_180 : tdat Try.prog 180 = some ⟨true, 0, 0, .agg #[]⟩ := by kernel_rfl
theorem zv_180 : ofV (.agg #[]) = .ag [] := by kernel_rfl
theorem tf_180 : tflds Try.prog 180 = some [(0, 0, true)] := by kernel_rfl
theorem nk_181 : nkT Try.prog 181 = some .nkf := by kernel_rfl
theorem td_182 : tdat Try.prog 182 = some ⟨false, 1, 4, .int .u32 0⟩ := by kernel_rfl
theorem zv_182 : ofV (.int .u32 0) = .v (.int .u32 0) := by kernel_rfl
theorem td_183 : tdat Try.prog 183 = some ⟨false, 1, 1, .int .u8 0⟩ := by kernel_rfl
theorem zv_183 : ofV (.int .u8 0) = .v (.int .u8 0) := by kernel_rfl
theorem td_184 : tdat Try.prog 184 = some ⟨false, 1, 1, .int .u8 0⟩ := by kernel_rfl
theorem zv_184 : ofV (.int .u8 0) = .v (.int .u8 0) := by kernel_rfl
theorem nk_185 : nkT Try.prog 185 = some .nkf := by kernel_rfl
theorem nk_186 : nkT Try.prog 186 = some .nkp := by kernel_rfl
theorem td_186 : tdat Try.prog 186 = some ⟨false, 1, 8, .pointer none⟩ := by kernel_rfl
theorem zv_186 : ofV (.pointer none) = .v (.pointer none) := by kernel_rfl
theorem td_187 : tdat Try.prog 187 = some ⟨false, 1, 4, .int .i32 0⟩ := by kernel_rfl
theorem zv_187 : ofV (.int .i32 0) = .v (.int .i32 0) := by kernel_rfl
theorem td_188 : tdat Try.prog 188 = some ⟨false, 1, 4, .int .i32 0⟩ := by kernel_rfl
theorem zv_188 : ofV (.int .i32 0) = .v (.int .i32 0) := by kernel_rfl
theorem td_189 : tdat Try.prog 189 = some ⟨true, 11, 48, .agg #[.int .u64 0, .int .u64 0, .int .u32 0, .int .u8 0, .int .u8 0, .int .u8 0, .int .u8 0, .nilFunc, .pointer none, .int .i32 0, .int .i32 0]⟩ := by kernel_rfl
theorem zv_189 : ofV (.agg #[.int .u64 0, .int .u64 0, .int .u32 0, .int .u8 0, .int .u8 0, .int .u8 0, .int .u8 0, .nilFunc, .pointer none, .int .i32 0, .int .i32 0]) = .ag [.v (.int .u64 0), .v (.int .u64 0), .v (.int .u32 0), .v (.int .u8 0), .v (.int .u8 0), .v (.int .u8 0), .v (.int .u8 0), .v .nilFunc, .v (.pointer none), .v (.int .i32 0), .v (.int .i32 0)] := by kernel_rfl
theorem tf_189 : tflds Try.prog 189 = some [(0, 1, false), (1, 1, false), (2, 1, false), (3, 1, false), (4, 1, false), (5, 1, false), (6, 1, false), (7, 1, false), (8, 1, false), (9, 1, false), (10, 1, false)] := by kernel_rfl
theorem td_190 : tdat Try.prog 190 = some ⟨true, 11, 48, .agg #[.int .u64 0, .int .u64 0, .int .u32 0, .int .u8 0, .int .u8 0, .int .u8 0, .int .u8 0, .nilFunc, .pointer none, .int .i32 0, .int .i32 0]⟩ := by kernel_rfl
theorem zv_190 : ofV (.agg #[.int .u64 0, .int .u64 0, .int .u32 0, .int .u8 0, .int .u8 0, .int .u8 0, .int .u8 0, .nilFunc, .pointer none, .int .i32 0, .int .i32 0]) = .ag [.v (.int .u64 0), .v (.int .u64 0), .v (.int .u32 0), .v (.int .u8 0), .v (.int .u8 0), .v (.int .u8 0), .v (.int .u8 0), .v .nilFunc, .v (.pointer none), .v (.int .i32 0), .v (.int .i32 0)] := by kernel_rfl
theorem tf_190 : tflds Try.prog 190 = some [(0, 1, false), (1, 1, false), (2, 1, false), (3, 1, false), (4, 1, false), (5, 1, false), (6, 1, false), (7, 1, false), (8, 1, false), (9, 1, false), (10, 1, false)] := by kernel_rfl
theorem nk_191 : nkT Try.prog 191 = some .nkf := by kernel_rfl
theorem nk_192 : nkT Try.prog 192 = some .nkf := by kernel_rfl
theorem nk_193 : nkT Try.prog 193 = some .nkf := by kernel_rfl
theorem nk_194 : nkT Try.prog 194 = some .nkf := by kernel_rfl
theorem nk_195 : nkT Try.prog 195 = some .nkf := by kernel_rfl
theorem nk_196 : nkT Try.prog 196 = some .nkf := by kernel_rfl
theorem td_197 : tdat Try.prog 197 = some ⟨true, 2, 24, .agg #[.string ⟨#[]⟩, .int .u8 0]⟩ := by kernel_rfl
theorem zv_197 : ofV (.agg #[.string ⟨#[]⟩, .int .u8 0]) = .ag [.v (.string ⟨#[]⟩), .v (.int .u8 0)] := by kernel_rfl
theorem tf_197 : tflds Try.prog 197 = some [(0, 1, false), (1, 1, false)] := by kernel_rfl
theorem td_198 : tdat Try.prog 198 = some ⟨true, 2, 24, .agg #[.string ⟨#[]⟩, .int .u8 0]⟩ := by kernel_rfl
theorem zv_198 : ofV (.agg #[.string ⟨#[]⟩, .int .u8 0]) = .ag [.v (.string ⟨#[]⟩), .v (.int .u8 0)] := by kernel_rfl
theorem tf_198 : tflds Try.prog 198 = some [(0, 1, false), (1, 1, false)] := by kernel_rfl
theorem td_199 : tdat Try.prog 199 = some ⟨false, 1, 8, .pointer none⟩ := by kernel_rfl
theorem zv_199 : ofV (.pointer none) = .v (.pointer none) := by kernel_rfl
theorem nk_200 : nkT Try.prog 200 = some .nkp := by kernel_rfl
theorem td_200 : tdat Try.prog 200 = some ⟨false, 1, 8, .pointer none⟩ := by kernel_rfl
theorem zv_200 : ofV (.pointer none) = .v (.pointer none) := by kernel_rfl
theorem nk_201 : nkT Try.prog 201 = some .nkf := by kernel_rfl
theorem td_202 : tdat Try.prog 202 = some ⟨false, 1, 2, .int .u16 0⟩ := by kernel_rfl
theorem zv_202 : ofV (.int .u16 0) = .v (.int .u16 0) := by kernel_rfl
theorem td_203 : tdat Try.prog 203 = some ⟨true, 5, 16, .agg #[.int .i32 0, .int .u16 0, .int .u16 0, .int .u32 0, .int .u32 0]⟩ := by kernel_rfl
theorem zv_203 : ofV (.agg #[.int .i32 0, .int .u16 0, .int .u16 0, .int .u32 0, .int .u32 0]) = .ag [.v (.int .i32 0), .v (.int .u16 0), .v (.int .u16 0), .v (.int .u32 0), .v (.int .u32 0)] := by kernel_rfl
theorem tf_203 : tflds Try.prog 203 = some [(0, 1, false), (1, 1, false), (2, 1, false), (3, 1, false), (4, 1, false)] := by kernel_rfl
theorem td_204 : tdat Try.prog 204 = some ⟨true, 5, 16, .agg #[.int .i32 0, .int .u16 0, .int .u16 0, .int .u32 0, .int .u32 0]⟩ := by kernel_rfl
theorem zv_204 : ofV (.agg #[.int .i32 0, .int .u16 0, .int .u16 0, .int .u32 0, .int .u32 0]) = .ag [.v (.int .i32 0), .v (.int .u16 0), .v (.int .u16 0), .v (.int .u32 0), .v (.int .u32 0)] := by kernel_rfl
theorem tf_204 : tflds Try.prog 204 = some [(0, 1, false), (1, 1, false), (2, 1, false), (3, 1, false), (4, 1, false)] := by kernel_rfl
theorem td_205 : tdat Try.prog 205 = some ⟨false, 1, 24, .slice none 0 0⟩ := by kernel_rfl
theorem zv_205 : ofV (.slice none 0 0) = .sl .full [] := by kernel_rfl
theorem tel_205 : tel Try.prog 205 = some 208 := by kernel_rfl
theorem td_206 : tdat Try.prog 206 = some ⟨false, 1, 4, .int .i32 0⟩ := by kernel_rfl
theorem zv_206 : ofV (.int .i32 0) = .v (.int .i32 0) := by kernel_rfl
theorem td_207 : tdat Try.prog 207 = some ⟨true, 4, 16, .agg #[.int .i32 0, .int .i32 0, .int .i32 0, .int .i32 0]⟩ := by kernel_rfl
theorem zv_207 : ofV (.agg #[.int .i32 0, .int .i32 0, .int .i32 0, .int .i32 0]) = .ag [.v (.int .i32 0), .v (.int .i32 0), .v (.int .i32 0), .v (.int .i32 0)] := by kernel_rfl
theorem tf_207 : tflds Try.prog 207 = some [(0, 1, false), (1, 1, false), (2, 1, false), (3, 1, false)] := by kernel_rfl
theorem td_208 : tdat Try.prog 208 = some ⟨true, 4, 16, .agg #[.int .i32 0, .int .i32 0, .int .i32 0, .int .i32 0]⟩ := by kernel_rfl
theorem zv_208 : ofV (.agg #[.int .i32 0, .int .i32 0, .int .i32 0, .int .i32 0]) = .ag [.v (.int .i32 0), .v (.int .i32 0), .v (.int .i32 0), .v (.int .i32 0)] := by kernel_rfl
theorem tf_208 : tflds Try.prog 208 = some [(0, 1, false), (1, 1, false), (2, 1, false), (3, 1, false)] := by kernel_rfl
set_option linter.defProp false
def tfA0 := And.intro @nk_1 (And.intro @td_2 (And.intro @zv_2 (And.intro @Try.underlying2 (And.intro @td_3 (And.intro @zv_3 (And.intro @Try.underlying3 (And.intro @td_4 (And.intro @zv_4 (And.intro @Try.underlying4 (And.intro @td_5 (And.intro @zv_5 (And.intro @Try.underlying5 (And.intro @td_6 (And.intro @zv_6 (And.intro @Try.underlying6 (And.intro @td_7 (And.intro @zv_7 (And.intro @tf_7 (And.intro @td_8 (And.intro @zv_8 (And.intro @tf_8 (And.intro @td_9 (And.intro @zv_9 (And.intro @Try.underlying9 (And.intro @td_10 (And.intro @zv_10 (And.intro @Try.underlying10 (And.intro @td_11 @zv_11))))))))))))))))))))))))))))
def tfA1 := And.intro @Try.underlying11 (And.intro @td_12 (And.intro @zv_12 (And.intro @Try.underlying12 (And.intro @td_13 (And.intro @zv_13 (And.intro @tf_13 (And.intro @td_14 (And.intro @zv_14 (And.intro @tf_14 (And.intro @nk_15 (And.intro @td_15 (And.intro @zv_15 (And.intro @Try.underlying15 (And.intro @nk_16 (And.intro @td_16 (And.intro @zv_16 (And.intro @Try.underlying16 (And.intro @nk_17 (And.intro @td_17 (And.intro @zv_17 (And.intro @Try.underlying17 (And.intro @td_18 (And.intro @zv_18 (And.intro @tf_18 (And.intro @td_19 (And.intro @zv_19 (And.intro @tf_19 (And.intro @nk_20 @td_20))))))))))))))))))))))))))))
def tfA2 := And.intro @zv_20 (And.intro @td_21 (And.intro @zv_21 (And.intro @Try.underlying21 (And.intro @td_22 (And.intro @zv_22 (And.intro @tel_22 (And.intro @Try.underlying22 (And.intro @nk_23 (And.intro @nk_24 (And.intro @td_24 (And.intro @zv_24 (And.intro @nk_25 (And.intro @td_25 (And.intro @zv_25 (And.intro @nk_26 (And.intro @td_27 (And.intro @zv_27 (And.intro @tel_27 (And.intro @Try.underlying27 (And.intro @td_28 (And.intro @zv_28 (And.intro @tel_28 (And.intro @Try.underlying28 (And.intro @td_29 (And.intro @zv_29 (And.intro @tf_29 (And.intro @td_30 (And.intro @zv_30 @tf_30))))))))))))))))))))))))))))
def tfA3 := And.intro @nk_31 (And.intro @nk_32 (And.intro @td_33 (And.intro @zv_33 (And.intro @tel_33 (And.intro @Try.underlying33 (And.intro @td_34 (And.intro @zv_34 (And.intro @tel_34 (And.intro @Try.underlying34 (And.intro @nk_36 (And.intro @td_37 (And.intro @zv_37 (And.intro @tel_37 (And.intro @Try.underlying37 (And.intro @td_38 (And.intro @zv_38 (And.intro @tel_38 (And.intro @Try.underlying38 (And.intro @td_39 (And.intro @zv_39 (And.intro @tf_39 (And.intro @td_40 (And.intro @zv_40 (And.intro @tf_40 (And.intro @td_41 (And.intro @zv_41 (And.intro @tf_41 (And.intro @fl_41 @td_42))))))))))))))))))))))))))))
def tfA4 := And.intro @zv_42 (And.intro @tf_42 (And.intro @fl_42 (And.intro @td_43 (And.intro @zv_43 (And.intro @tf_43 (And.intro @td_44 (And.intro @zv_44 (And.intro @tf_44 (And.intro @nk_45 (And.intro @td_45 (And.intro @zv_45 (And.intro @Try.underlying45 (And.intro @nk_46 (And.intro @nk_47 (And.intro @td_48 (And.intro @zv_48 (And.intro @tel_48 (And.intro @Try.underlying48 (And.intro @td_49 (And.intro @zv_49 (And.intro @tel_49 (And.intro @Try.underlying49 (And.intro @td_50 (And.intro @zv_50 (And.intro @tel_50 (And.intro @Try.underlying50 (And.intro @td_51 (And.intro @zv_51 @tf_51))))))))))))))))))))))))))))
def tfA5 := And.intro @td_52 (And.intro @zv_52 (And.intro @tf_52 (And.intro @td_53 (And.intro @zv_53 (And.intro @tel_53 (And.intro @Try.underlying53 (And.intro @td_54 (And.intro @zv_54 (And.intro @tel_54 (And.intro @Try.underlying54 (And.intro @nk_55 (And.intro @td_56 (And.intro @zv_56 (And.intro @Try.underlying56 (And.intro @nk_57 (And.intro @nk_58 (And.intro @td_58 (And.intro @zv_58 (And.intro @Try.underlying58 (And.intro @nk_59 (And.intro @td_60 (And.intro @zv_60 (And.intro @tel_60 (And.intro @Try.underlying60 (And.intro @td_61 (And.intro @zv_61 (And.intro @tf_61 (And.intro @td_62 @zv_62))))))))))))))))))))))))))))
def tfA6 := And.intro @tf_62 (And.intro @td_63 (And.intro @zv_63 (And.intro @tf_63 (And.intro @td_64 (And.intro @zv_64 (And.intro @tf_64 (And.intro @nk_65 (And.intro @nk_66 (And.intro @nk_67 (And.intro @td_67 (And.intro @zv_67 (And.intro @Try.underlying67 (And.intro @td_68 (And.intro @zv_68 (And.intro @tf_68 (And.intro @td_69 (And.intro @zv_69 (And.intro @tf_69 (And.intro @td_70 (And.intro @zv_70 (And.intro @tf_70 (And.intro @td_71 (And.intro @zv_71 (And.intro @tf_71 (And.intro @nk_72 (And.intro @nk_73 (And.intro @td_73 (And.intro @zv_73 @Try.underlying73))))))))))))))))))))))))))))
def tfA7 := And.intro @td_74 (And.intro @zv_74 (And.intro @tf_74 (And.intro @td_75 (And.intro @zv_75 (And.intro @tf_75 (And.intro @nk_76 (And.intro @nk_77 (And.intro @td_78 (And.intro @zv_78 (And.intro @tf_78 (And.intro @fl_78 (And.intro @td_79 (And.intro @zv_79 (And.intro @tf_79 (And.intro @fl_79 (And.intro @td_80 (And.intro @zv_80 (And.intro @tel_80 (And.intro @Try.underlying80 (And.intro @td_81 (And.intro @zv_81 (And.intro @tel_81 (And.intro @Try.underlying81 (And.intro @td_82 (And.intro @zv_82 (And.intro @tf_82 (And.intro @td_83 (And.intro @zv_83 @tf_83))))))))))))))))))))))))))))
def tfA8 := And.intro @td_84 (And.intro @zv_84 (And.intro @tf_84 (And.intro @td_85 (And.intro @zv_85 (And.intro @tf_85 (And.intro @nk_86 (And.intro @td_87 (And.intro @zv_87 (And.intro @tf_87 (And.intro @tel_87 (And.intro @ta_87 (And.intro @Try.underlying87 (And.intro @td_88 (And.intro @zv_88 (And.intro @tel_88 (And.intro @Try.underlying88 (And.intro @td_89 (And.intro @zv_89 (And.intro @tf_89 (And.intro @td_90 (And.intro @zv_90 (And.intro @tf_90 (And.intro @nk_91 (And.intro @nk_92 (And.intro @td_93 (And.intro @zv_93 (And.intro @tel_93 (And.intro @Try.underlying93 @nk_94))))))))))))))))))))))))))))
def tfA9 := And.intro @nk_95 (And.intro @nk_96 (And.intro @nk_97 (And.intro @nk_98 (And.intro @td_98 (And.intro @zv_98 (And.intro @Try.underlying98 (And.intro @td_99 (And.intro @zv_99 (And.intro @tf_99 (And.intro @td_100 (And.intro @zv_100 (And.intro @tf_100 (And.intro @nk_101 (And.intro @nk_102 (And.intro @nk_103 (And.intro @td_104 (And.intro @zv_104 (And.intro @tf_104 (And.intro @td_105 (And.intro @zv_105 (And.intro @tf_105 (And.intro @nk_106 (And.intro @nk_107 (And.intro @nk_108 (And.intro @td_109 (And.intro @zv_109 (And.intro @tf_109 (And.intro @fl_109 @td_110))))))))))))))))))))))))))))
def tfA10 := And.intro @zv_110 (And.intro @tf_110 (And.intro @fl_110 (And.intro @td_111 (And.intro @zv_111 (And.intro @tel_111 (And.intro @Try.underlying111 (And.intro @td_112 (And.intro @zv_112 (And.intro @tf_112 (And.intro @td_113 (And.intro @zv_113 (And.intro @tf_113 (And.intro @nk_114 (And.intro @td_115 (And.intro @zv_115 (And.intro @tf_115 (And.intro @td_116 (And.intro @zv_116 (And.intro @tf_116 (And.intro @nk_117 (And.intro @nk_118 (And.intro @td_118 (And.intro @zv_118 (And.intro @Try.underlying118 (And.intro @td_119 (And.intro @zv_119 (And.intro @tf_119 (And.intro @fl_119 @td_120))))))))))))))))))))))))))))
def tfA11 := And.intro @zv_120 (And.intro @tf_120 (And.intro @fl_120 (And.intro @nk_121 (And.intro @nk_122 (And.intro @nk_123 (And.intro @nk_124 (And.intro @td_124 (And.intro @zv_124 (And.intro @nk_125 (And.intro @td_125 (And.intro @zv_125 (And.intro @nk_126 (And.intro @nk_127 (And.intro @td_128 (And.intro @zv_128 (And.intro @tel_128 (And.intro @Try.underlying128 (And.intro @nk_129 (And.intro @nk_130 (And.intro @nk_131 (And.intro @nk_132 (And.intro @nk_133 (And.intro @td_134 (And.intro @zv_134 (And.intro @tel_134 (And.intro @Try.underlying134 (And.intro @nk_135 (And.intro @nk_136 @nk_138))))))))))))))))))))))))))))
def tfA12 := And.intro @nk_139 (And.intro @nk_140 (And.intro @nk_141 (And.intro @nk_142 (And.intro @nk_143 (And.intro @nk_144 (And.intro @td_145 (And.intro @zv_145 (And.intro @tf_145 (And.intro @td_146 (And.intro @zv_146 (And.intro @tf_146 (And.intro @nk_147 (And.intro @td_147 (And.intro @zv_147 (And.intro @Try.underlying147 (And.intro @nk_148 (And.intro @td_148 (And.intro @zv_148 (And.intro @nk_150 (And.intro @nk_151 (And.intro @td_151 (And.intro @zv_151 (And.intro @nk_152 (And.intro @nk_153 (And.intro @td_153 (And.intro @zv_153 (And.intro @td_154 (And.intro @zv_154 @tel_154))))))))))))))))))))))))))))
def tfA13 := And.intro @Try.underlying154 (And.intro @nk_155 (And.intro @nk_156 (And.intro @nk_157 (And.intro @nk_158 (And.intro @nk_159 (And.intro @nk_160 (And.intro @nk_161 (And.intro @nk_162 (And.intro @nk_163 (And.intro @nk_164 (And.intro @nk_165 (And.intro @nk_166 (And.intro @nk_167 (And.intro @nk_168 (And.intro @nk_170 (And.intro @nk_171 (And.intro @nk_172 (And.intro @nk_173 (And.intro @nk_174 (And.intro @nk_175 (And.intro @td_176 (And.intro @zv_176 (And.intro @tf_176 (And.intro @td_177 (And.intro @zv_177 (And.intro @tf_177 (And.intro @td_178 (And.intro @zv_178 @tf_178))))))))))))))))))))))))))))
def tfA14 := And.intro @tel_178 (And.intro @ta_178 (And.intro @Try.underlying178 (And.intro @td_179 (And.intro @zv_179 (And.intro @tf_179 (And.intro @td_180 (And.intro @zv_180 (And.intro @tf_180 (And.intro @nk_181 (And.intro @td_182 (And.intro @zv_182 (And.intro @Try.underlying182 (And.intro @td_183 (And.intro @zv_183 (And.intro @Try.underlying183 (And.intro @td_184 (And.intro @zv_184 (And.intro @Try.underlying184 (And.intro @nk_185 (And.intro @nk_186 (And.intro @td_186 (And.intro @zv_186 (And.intro @Try.underlying186 (And.intro @td_187 (And.intro @zv_187 (And.intro @Try.underlying187 (And.intro @td_188 (And.intro @zv_188 @Try.underlying188))))))))))))))))))))))))))))
def tfA15 := And.intro @td_189 (And.intro @zv_189 (And.intro @tf_189 (And.intro @td_190 (And.intro @zv_190 (And.intro @tf_190 (And.intro @nk_191 (And.intro @nk_192 (And.intro @nk_193 (And.intro @nk_194 (And.intro @nk_195 (And.intro @nk_196 (And.intro @td_197 (And.intro @zv_197 (And.intro @tf_197 (And.intro @td_198 (And.intro @zv_198 (And.intro @tf_198 (And.intro @td_199 (And.intro @zv_199 (And.intro @nk_200 (And.intro @td_200 (And.intro @zv_200 (And.intro @Try.underlying200 (And.intro @nk_201 (And.intro @td_202 (And.intro @zv_202 (And.intro @Try.underlying202 (And.intro @td_203 @zv_203))))))))))))))))))))))))))))
def tfA16 := And.intro @tf_203 (And.intro @td_204 (And.intro @zv_204 (And.intro @tf_204 (And.intro @td_205 (And.intro @zv_205 (And.intro @tel_205 (And.intro @Try.underlying205 (And.intro @td_206 (And.intro @zv_206 (And.intro @Try.underlying206 (And.intro @td_207 (And.intro @zv_207 (And.intro @tf_207 (And.intro @td_208 (And.intro @zv_208 @tf_208)))))))))))))))
def tfA := And.intro @tfA0 (And.intro @tfA1 (And.intro @tfA2 (And.intro @tfA3 (And.intro @tfA4 (And.intro @tfA5 (And.intro @tfA6 (And.intro @tfA7 (And.intro @tfA8 (And.intro @tfA9 (And.intro @tfA10 (And.intro @tfA11 (And.intro @tfA12 (And.intro @tfA13 (And.intro @tfA14 (And.intro @tfA15 @tfA16)))))))))))))))
end Go.Proofs.Ytaealemhegdmpaa
