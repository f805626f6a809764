/-
 Closed facts on the types of this seat.
-/
-- halved
import Derived.Test.YtibhhoknipdlpaaRows
import Derived.Test.YtibhhoknipdlpaaWpA
import Derived.KernelRfl
namespace Go.Proofs.Ytibhhoknipdlpaa
open Go Go.RowKit
theorem ok_mix : Try.prog.follows .mixedOrders = true := by kernel_rfl
theorem nk_1 : nkT Try.prog 1 = some .nkf := by kernel_rfl
theorem td_2 : tdat Try.prog 2 = some ⟨false, 1, 8, .int .i64 0⟩ := by kernel_rfl
theorem zv_2 : ofV (.int .i64 0) = .v (.int .i64 0) := by kernel_rfl
theorem td_3 : tdat Try.prog 3 = some ⟨false, 1, 8, .int .i64 0⟩ := by kernel_rfl
theorem zv_3 : ofV (.int .i64 0) = .v (.int .i64 0) := by kernel_rfl
theorem td_4 : tdat Try.prog 4 = some ⟨false, 1, 1, .bool false⟩ := by kernel_rfl
theorem zv_4 : ofV (.bool false) = .v (.bool false) := by kernel_rfl
theorem td_5 : tdat Try.prog 5 = some ⟨false, 1, 1, .int .u8 0⟩ := by kernel_rfl
theorem zv_5 : ofV (.int .u8 0) = .v (.int .u8 0) := by kernel_rfl
theorem td_6 : tdat Try.prog 6 = some ⟨false, 1, 1, .int .u8 0⟩ := by kernel_rfl
theorem zv_6 : ofV (.int .u8 0) = .v (.int .u8 0) := by kernel_rfl
theorem td_7 : tdat Try.prog 7 = some ⟨true, 4, 24, .agg #[.int .i64 0, .int .i64 0, .bool false, .int .u8 0]⟩ := by kernel_rfl
theorem zv_7 : ofV (.agg #[.int .i64 0, .int .i64 0, .bool false, .int .u8 0]) = .ag [.v (.int .i64 0), .v (.int .i64 0), .v (.bool false), .v (.int .u8 0)] := by kernel_rfl
theorem tf_7 : tflds Try.prog 7 = some [(0, 1, false), (1, 1, false), (2, 1, false), (3, 1, false)] := by kernel_rfl
theorem td_8 : tdat Try.prog 8 = some ⟨true, 4, 24, .agg #[.int .i64 0, .int .i64 0, .bool false, .int .u8 0]⟩ := by kernel_rfl
theorem zv_8 : ofV (.agg #[.int .i64 0, .int .i64 0, .bool false, .int .u8 0]) = .ag [.v (.int .i64 0), .v (.int .i64 0), .v (.bool false), .v (.int .u8 0)] := by kernel_rfl
theorem tf_8 : tflds Try.prog 8 = some [(0, 1, false), (1, 1, false), (2, 1, false), (3, 1, false)] := by kernel_rfl
theorem td_9 : tdat Try.prog 9 = some ⟨false, 1, 16, .string ⟨#[]⟩⟩ := by kernel_rfl
theorem zv_9 : ofV (.string ⟨#[]⟩) = .v (.string ⟨#[]⟩) := by kernel_rfl
theorem td_10 : tdat Try.prog 10 = some ⟨false, 1, 16, .string ⟨#[]⟩⟩ := by kernel_rfl
theorem zv_10 : ofV (.string ⟨#[]⟩) = .v (.string ⟨#[]⟩) := by kernel_rfl
theorem td_11 : tdat Try.prog 11 = some ⟨false, 1, 16, .string ⟨#[]⟩⟩ := by kernel_rfl
theorem zv_11 : ofV (.string ⟨#[]⟩) = .v (.string ⟨#[]⟩) := by kernel_rfl
theorem td_12 : tdat Try.prog 12 = some ⟨false, 1, 8, .int .u64 0⟩ := by kernel_rfl
theorem zv_12 : ofV (.int .u64 0) = .v (.int .u64 0) := by kernel_rfl
theorem td_13 : tdat Try.prog 13 = some ⟨true, 2, 24, .agg #[.string ⟨#[]⟩, .int .u64 0]⟩ := by kernel_rfl
theorem zv_13 : ofV (.agg #[.string ⟨#[]⟩, .int .u64 0]) = .ag [.v (.string ⟨#[]⟩), .v (.int .u64 0)] := by kernel_rfl
theorem tf_13 : tflds Try.prog 13 = some [(0, 1, false), (1, 1, false)] := by kernel_rfl
theorem td_14 : tdat Try.prog 14 = some ⟨true, 2, 24, .agg #[.string ⟨#[]⟩, .int .u64 0]⟩ := by kernel_rfl
theorem zv_14 : ofV (.agg #[.string ⟨#[]⟩, .int .u64 0]) = .ag [.v (.string ⟨#[]⟩), .v (.int .u64 0)] := by kernel_rfl
theorem tf_14 : tflds Try.prog 14 = some [(0, 1, false), (1, 1, false)] := by kernel_rfl
theorem nk_15 : nkT Try.prog 15 = some .nkp := by kernel_rfl
theorem td_15 : tdat Try.prog 15 = some ⟨false, 1, 8, .pointer none⟩ := by kernel_rfl
theorem zv_15 : ofV (.pointer none) = .v (.pointer none) := by kernel_rfl
theorem nk_16 : nkT Try.prog 16 = some .nkp := by kernel_rfl
theorem td_16 : tdat Try.prog 16 = some ⟨false, 1, 8, .pointer none⟩ := by kernel_rfl
theorem zv_16 : ofV (.pointer none) = .v (.pointer none) := by kernel_rfl
theorem nk_17 : nkT Try.prog 17 = some .nkp := by kernel_rfl
theorem td_17 : tdat Try.prog 17 = some ⟨false, 1, 8, .pointer none⟩ := by kernel_rfl
theorem zv_17 : ofV (.pointer none) = .v (.pointer none) := by kernel_rfl
theorem td_18 : tdat Try.prog 18 = some ⟨true, 1, 8, .agg #[.pointer none]⟩ := by kernel_rfl
theorem zv_18 : ofV (.agg #[.pointer none]) = .ag [.v (.pointer none)] := by kernel_rfl
theorem tf_18 : tflds Try.prog 18 = some [(0, 1, false)] := by kernel_rfl
theorem td_19 : tdat Try.prog 19 = some ⟨true, 1, 8, .agg #[.pointer none]⟩ := by kernel_rfl
theorem zv_19 : ofV (.agg #[.pointer none]) = .ag [.v (.pointer none)] := by kernel_rfl
theorem tf_19 : tflds Try.prog 19 = some [(0, 1, false)] := by kernel_rfl
theorem nk_20 : nkT Try.prog 20 = some .nki := by kernel_rfl
theorem td_20 : tdat Try.prog 20 = some ⟨false, 1, 16, .nilIface⟩ := by kernel_rfl
theorem zv_20 : ofV (.nilIface) = .v .nilIface := by kernel_rfl
theorem td_21 : tdat Try.prog 21 = some ⟨false, 1, 4, .int .i32 0⟩ := by kernel_rfl
theorem zv_21 : ofV (.int .i32 0) = .v (.int .i32 0) := by kernel_rfl
theorem td_22 : tdat Try.prog 22 = some ⟨false, 1, 24, .slice none 0 0⟩ := by kernel_rfl
theorem zv_22 : ofV (.slice none 0 0) = .sl .full [] := by kernel_rfl
theorem tel_22 : tel Try.prog 22 = some 5 := by kernel_rfl
theorem td_23 : tdat Try.prog 23 = some ⟨false, 1, 2, .int .u16 0⟩ := by kernel_rfl
theorem zv_23 : ofV (.int .u16 0) = .v (.int .u16 0) := by kernel_rfl
theorem nk_24 : nkT Try.prog 24 = some .nkf := by kernel_rfl
theorem td_25 : tdat Try.prog 25 = some ⟨false, 1, 24, .slice none 0 0⟩ := by kernel_rfl
theorem zv_25 : ofV (.slice none 0 0) = .sl .full [] := by kernel_rfl
theorem tel_25 : tel Try.prog 25 = some 68 := by kernel_rfl
theorem td_26 : tdat Try.prog 26 = some ⟨false, 1, 24, .slice none 0 0⟩ := by kernel_rfl
theorem zv_26 : ofV (.slice none 0 0) = .sl .full [] := by kernel_rfl
theorem tel_26 : tel Try.prog 26 = some 39 := by kernel_rfl
theorem td_27 : tdat Try.prog 27 = some ⟨true, 2, 48, .agg #[.slice none 0 0, .slice none 0 0]⟩ := by kernel_rfl
theorem zv_27 : ofV (.agg #[.slice none 0 0, .slice none 0 0]) = .ag [.sl .full [], .sl .full []] := by kernel_rfl
theorem tf_27 : tflds Try.prog 27 = some [(0, 1, false), (1, 1, false)] := by kernel_rfl
theorem td_28 : tdat Try.prog 28 = some ⟨true, 2, 48, .agg #[.slice none 0 0, .slice none 0 0]⟩ := by kernel_rfl
theorem zv_28 : ofV (.agg #[.slice none 0 0, .slice none 0 0]) = .ag [.sl .full [], .sl .full []] := by kernel_rfl
theorem tf_28 : tflds Try.prog 28 = some [(0, 1, false), (1, 1, false)] := by kernel_rfl
theorem nk_29 : nkT Try.prog 29 = some .nkf := by kernel_rfl
theorem td_30 : tdat Try.prog 30 = some ⟨false, 1, 24, .slice none 0 0⟩ := by kernel_rfl
theorem zv_30 : ofV (.slice none 0 0) = .sl .full [] := by kernel_rfl
theorem tel_30 : tel Try.prog 30 = some 44 := by kernel_rfl
theorem nk_31 : nkT Try.prog 31 = some .nkf := by kernel_rfl
theorem td_32 : tdat Try.prog 32 = some ⟨false, 1, 24, .slice none 0 0⟩ := by kernel_rfl
theorem zv_32 : ofV (.slice none 0 0) = .sl .full [] := by kernel_rfl
theorem tel_32 : tel Try.prog 32 = some 52 := by kernel_rfl
theorem td_33 : tdat Try.prog 33 = some ⟨false, 1, 24, .slice none 0 0⟩ := by kernel_rfl
theorem zv_33 : ofV (.slice none 0 0) = .sl .full [] := by kernel_rfl
theorem tel_33 : tel Try.prog 33 = some 86 := by kernel_rfl
theorem td_34 : tdat Try.prog 34 = some ⟨true, 2, 48, .agg #[.slice none 0 0, .slice none 0 0]⟩ := by kernel_rfl
theorem zv_34 : ofV (.agg #[.slice none 0 0, .slice none 0 0]) = .ag [.sl .full [], .sl .full []] := by kernel_rfl
theorem tf_34 : tflds Try.prog 34 = some [(0, 1, false), (1, 1, false)] := by kernel_rfl
theorem td_35 : tdat Try.prog 35 = some ⟨true, 2, 48, .agg #[.slice none 0 0, .slice none 0 0]⟩ := by kernel_rfl
theorem zv_35 : ofV (.agg #[.slice none 0 0, .slice none 0 0]) = .ag [.sl .full [], .sl .full []] := by kernel_rfl
theorem tf_35 : tflds Try.prog 35 = some [(0, 1, false), (1, 1, false)] := by kernel_rfl
theorem td_36 : tdat Try.prog 36 = some ⟨true, 2, 16, .agg #[.int .i64 0, .int .i64 0]⟩ := by kernel_rfl
theorem zv_36 : ofV (.agg #[.int .i64 0, .int .i64 0]) = .ag [.v (.int .i64 0), .v (.int .i64 0)] := by kernel_rfl
theorem tf_36 : tflds Try.prog 36 = some [(0, 1, false), (1, 1, false)] := by kernel_rfl
theorem fl_36 : flat1 Try.prog 36 = some [.ski, .ski] := by kernel_rfl
theorem td_37 : tdat Try.prog 37 = some ⟨true, 2, 16, .agg #[.int .i64 0, .int .i64 0]⟩ := by kernel_rfl
theorem zv_37 : ofV (.agg #[.int .i64 0, .int .i64 0]) = .ag [.v (.int .i64 0), .v (.int .i64 0)] := by kernel_rfl
theorem tf_37 : tflds Try.prog 37 = some [(0, 1, false), (1, 1, false)] := by kernel_rfl
theorem fl_37 : flat1 Try.prog 37 = some [.ski, .ski] := by kernel_rfl
theorem td_38 : tdat Try.prog 38 = some ⟨true, 7, 128, .agg #[.string ⟨#[]⟩, .slice none 0 0, .slice none 0 0, .slice none 0 0, .slice none 0 0, .int .i64 0, .int .i64 0]⟩ := by kernel_rfl
theorem zv_38 : ofV (.agg #[.string ⟨#[]⟩, .slice none 0 0, .slice none 0 0, .slice none 0 0, .slice none 0 0, .int .i64 0, .int .i64 0]) = .ag [.v (.string ⟨#[]⟩), .sl .full [], .sl .full [], .sl .full [], .sl .full [], .v (.int .i64 0), .v (.int .i64 0)] := by kernel_rfl
theorem tf_38 : tflds Try.prog 38 = some [(0, 1, false), (1, 1, false), (2, 1, false), (3, 2, true), (5, 2, true)] := by kernel_rfl
theorem td_39 : tdat Try.prog 39 = some ⟨true, 7, 128, .agg #[.string ⟨#[]⟩, .slice none 0 0, .slice none 0 0, .slice none 0 0, .slice none 0 0, .int .i64 0, .int .i64 0]⟩ := by kernel_rfl
theorem zv_39 : ofV (.agg #[.string ⟨#[]⟩, .slice none 0 0, .slice none 0 0, .slice none 0 0, .slice none 0 0, .int .i64 0, .int .i64 0]) = .ag [.v (.string ⟨#[]⟩), .sl .full [], .sl .full [], .sl .full [], .sl .full [], .v (.int .i64 0), .v (.int .i64 0)] := by kernel_rfl
theorem tf_39 : tflds Try.prog 39 = some [(0, 1, false), (1, 1, false), (2, 1, false), (3, 2, true), (5, 2, true)] := by kernel_rfl
theorem nk_40 : nkT Try.prog 40 = some .nkf := by kernel_rfl
theorem td_41 : tdat Try.prog 41 = some ⟨false, 1, 24, .slice none 0 0⟩ := by kernel_rfl
theorem zv_41 : ofV (.slice none 0 0) = .sl .full [] := by kernel_rfl
theorem tel_41 : tel Try.prog 41 = some 9 := by kernel_rfl
theorem nk_42 : nkT Try.prog 42 = some .nkf := by kernel_rfl
theorem td_43 : tdat Try.prog 43 = some ⟨true, 8, 88, .agg #[.int .u8 0, .int .u8 0, .int .i32 0, .string ⟨#[]⟩, .slice none 0 0, .slice none 0 0, .int .i64 0, .int .i64 0]⟩ := by kernel_rfl
theorem zv_43 : ofV (.agg #[.int .u8 0, .int .u8 0, .int .i32 0, .string ⟨#[]⟩, .slice none 0 0, .slice none 0 0, .int .i64 0, .int .i64 0]) = .ag [.v (.int .u8 0), .v (.int .u8 0), .v (.int .i32 0), .v (.string ⟨#[]⟩), .sl .full [], .sl .full [], .v (.int .i64 0), .v (.int .i64 0)] := by kernel_rfl
theorem tf_43 : tflds Try.prog 43 = some [(0, 1, false), (1, 1, false), (2, 1, false), (3, 1, false), (4, 1, false), (5, 1, false), (6, 2, true)] := by kernel_rfl
theorem td_44 : tdat Try.prog 44 = some ⟨true, 8, 88, .agg #[.int .u8 0, .int .u8 0, .int .i32 0, .string ⟨#[]⟩, .slice none 0 0, .slice none 0 0, .int .i64 0, .int .i64 0]⟩ := by kernel_rfl
theorem zv_44 : ofV (.agg #[.int .u8 0, .int .u8 0, .int .i32 0, .string ⟨#[]⟩, .slice none 0 0, .slice none 0 0, .int .i64 0, .int .i64 0]) = .ag [.v (.int .u8 0), .v (.int .u8 0), .v (.int .i32 0), .v (.string ⟨#[]⟩), .sl .full [], .sl .full [], .v (.int .i64 0), .v (.int .i64 0)] := by kernel_rfl
theorem tf_44 : tflds Try.prog 44 = some [(0, 1, false), (1, 1, false), (2, 1, false), (3, 1, false), (4, 1, false), (5, 1, false), (6, 2, true)] := by kernel_rfl
theorem nk_45 : nkT Try.prog 45 = some .nkf := by kernel_rfl
theorem nk_46 : nkT Try.prog 46 = some .nkf := by kernel_rfl
theorem nk_47 : nkT Try.prog 47 = some .nkf := by kernel_rfl
theorem td_48 : tdat Try.prog 48 = some ⟨true, 2, 24, .agg #[.int .u8 0, .string ⟨#[]⟩]⟩ := by kernel_rfl
theorem zv_48 : ofV (.agg #[.int .u8 0, .string ⟨#[]⟩]) = .ag [.v (.int .u8 0), .v (.string ⟨#[]⟩)] := by kernel_rfl
theorem tf_48 : tflds Try.prog 48 = some [(0, 1, false), (1, 1, false)] := by kernel_rfl
theorem fl_48 : flat1 Try.prog 48 = some [.ski, .sks] := by kernel_rfl
theorem td_49 : tdat Try.prog 49 = some ⟨true, 2, 24, .agg #[.int .u8 0, .string ⟨#[]⟩]⟩ := by kernel_rfl
theorem zv_49 : ofV (.agg #[.int .u8 0, .string ⟨#[]⟩]) = .ag [.v (.int .u8 0), .v (.string ⟨#[]⟩)] := by kernel_rfl
theorem tf_49 : tflds Try.prog 49 = some [(0, 1, false), (1, 1, false)] := by kernel_rfl
theorem fl_49 : flat1 Try.prog 49 = some [.ski, .sks] := by kernel_rfl
theorem td_50 : tdat Try.prog 50 = some ⟨false, 1, 24, .slice none 0 0⟩ := by kernel_rfl
theorem zv_50 : ofV (.slice none 0 0) = .sl .full [] := by kernel_rfl
theorem tel_50 : tel Try.prog 50 = some 63 := by kernel_rfl
theorem td_51 : tdat Try.prog 51 = some ⟨true, 15, 176, .agg #[.string ⟨#[]⟩, .int .u8 0, .string ⟨#[]⟩, .slice none 0 0, .bool false, .int .u8 0, .int .u8 0, .int .i32 0, .string ⟨#[]⟩, .slice none 0 0, .slice none 0 0, .int .i64 0, .int .i64 0, .int .i64 0, .int .i64 0]⟩ := by kernel_rfl
theorem zv_51 : ofV (.agg #[.string ⟨#[]⟩, .int .u8 0, .string ⟨#[]⟩, .slice none 0 0, .bool false, .int .u8 0, .int .u8 0, .int .i32 0, .string ⟨#[]⟩, .slice none 0 0, .slice none 0 0, .int .i64 0, .int .i64 0, .int .i64 0, .int .i64 0]) = .ag [.v (.string ⟨#[]⟩), .v (.int .u8 0), .v (.string ⟨#[]⟩), .sl .full [], .v (.bool false), .v (.int .u8 0), .v (.int .u8 0), .v (.int .i32 0), .v (.string ⟨#[]⟩), .sl .full [], .sl .full [], .v (.int .i64 0), .v (.int .i64 0), .v (.int .i64 0), .v (.int .i64 0)] := by kernel_rfl
theorem tf_51 : tflds Try.prog 51 = some [(0, 1, false), (1, 2, true), (3, 1, false), (4, 1, false), (5, 8, true), (13, 2, true)] := by kernel_rfl
theorem td_52 : tdat Try.prog 52 = some ⟨true, 15, 176, .agg #[.string ⟨#[]⟩, .int .u8 0, .string ⟨#[]⟩, .slice none 0 0, .bool false, .int .u8 0, .int .u8 0, .int .i32 0, .string ⟨#[]⟩, .slice none 0 0, .slice none 0 0, .int .i64 0, .int .i64 0, .int .i64 0, .int .i64 0]⟩ := by kernel_rfl
theorem zv_52 : ofV (.agg #[.string ⟨#[]⟩, .int .u8 0, .string ⟨#[]⟩, .slice none 0 0, .bool false, .int .u8 0, .int .u8 0, .int .i32 0, .string ⟨#[]⟩, .slice none 0 0, .slice none 0 0, .int .i64 0, .int .i64 0, .int .i64 0, .int .i64 0]) = .ag [.v (.string ⟨#[]⟩), .v (.int .u8 0), .v (.string ⟨#[]⟩), .sl .full [], .v (.bool false), .v (.int .u8 0), .v (.int .u8 0), .v (.int .i32 0), .v (.string ⟨#[]⟩), .sl .full [], .sl .full [], .v (.int .i64 0), .v (.int .i64 0), .v (.int .i64 0), .v (.int .i64 0)] := by kernel_rfl
theorem tf_52 : tflds Try.prog 52 = some [(0, 1, false), (1, 2, true), (3, 1, false), (4, 1, false), (5, 8, true), (13, 2, true)] := by kernel_rfl
theorem nk_53 : nkT Try.prog 53 = some .nkf := by kernel_rfl
theorem nk_54 : nkT Try.prog 54 = some .nkf := by kernel_rfl
theorem nk_55 : nkT Try.prog 55 = some .nkf := by kernel_rfl
theorem nk_57 : nkT Try.prog 57 = some .nkf := by kernel_rfl
theorem nk_58 : nkT Try.prog 58 = some .nkf := by kernel_rfl
theorem nk_59 : nkT Try.prog 59 = some .nkf := by kernel_rfl
theorem nk_60 : nkT Try.prog 60 = some .nkf := by kernel_rfl
theorem nk_61 : nkT Try.prog 61 = some .nkf := by kernel_rfl
theorem td_62 : tdat Try.prog 62 = some ⟨true, 2, 32, .agg #[.string ⟨#[]⟩, .string ⟨#[]⟩]⟩ := by kernel_rfl
theorem zv_62 : ofV (.agg #[.string ⟨#[]⟩, .string ⟨#[]⟩]) = .ag [.v (.string ⟨#[]⟩), .v (.string ⟨#[]⟩)] := by kernel_rfl
theorem tf_62 : tflds Try.prog 62 = some [(0, 1, false), (1, 1, false)] := by kernel_rfl
theorem fl_62 : flat1 Try.prog 62 = some [.sks, .sks] := by kernel_rfl
theorem td_63 : tdat Try.prog 63 = some ⟨true, 2, 32, .agg #[.string ⟨#[]⟩, .string ⟨#[]⟩]⟩ := by kernel_rfl
theorem zv_63 : ofV (.agg #[.string ⟨#[]⟩, .string ⟨#[]⟩]) = .ag [.v (.string ⟨#[]⟩), .v (.string ⟨#[]⟩)] := by kernel_rfl
theorem tf_63 : tflds Try.prog 63 = some [(0, 1, false), (1, 1, false)] := by kernel_rfl
theorem fl_63 : flat1 Try.prog 63 = some [.sks, .sks] := by kernel_rfl
theorem nk_64 : nkT Try.prog 64 = some .nkf := by kernel_rfl
theorem nk_65 : nkT Try.prog 65 = some .nkf := by kernel_rfl
theorem td_66 : tdat Try.prog 66 = some ⟨false, 1, 24, .slice none 0 0⟩ := by kernel_rfl
theorem zv_66 : ofV (.slice none 0 0) = .sl .full [] := by kernel_rfl
theorem tel_66 : tel Try.prog 66 = some 41 := by kernel_rfl
theorem td_67 : tdat Try.prog 67 = some ⟨true, 4, 56, .agg #[.string ⟨#[]⟩, .slice none 0 0, .int .i64 0, .int .i64 0]⟩ := by kernel_rfl
theorem zv_67 : ofV (.agg #[.string ⟨#[]⟩, .slice none 0 0, .int .i64 0, .int .i64 0]) = .ag [.v (.string ⟨#[]⟩), .sl .full [], .v (.int .i64 0), .v (.int .i64 0)] := by kernel_rfl
theorem tf_67 : tflds Try.prog 67 = some [(0, 1, false), (1, 1, false), (2, 2, true)] := by kernel_rfl
theorem td_68 : tdat Try.prog 68 = some ⟨true, 4, 56, .agg #[.string ⟨#[]⟩, .slice none 0 0, .int .i64 0, .int .i64 0]⟩ := by kernel_rfl
theorem zv_68 : ofV (.agg #[.string ⟨#[]⟩, .slice none 0 0, .int .i64 0, .int .i64 0]) = .ag [.v (.string ⟨#[]⟩), .sl .full [], .v (.int .i64 0), .v (.int .i64 0)] := by kernel_rfl
theorem tf_68 : tflds Try.prog 68 = some [(0, 1, false), (1, 1, false), (2, 2, true)] := by kernel_rfl
theorem nk_70 : nkT Try.prog 70 = some .nkf := by kernel_rfl
theorem nk_71 : nkT Try.prog 71 = some .nkf := by kernel_rfl
theorem nk_72 : nkT Try.prog 72 = some .nkf := by kernel_rfl
theorem nk_73 : nkT Try.prog 73 = some .nkf := by kernel_rfl
theorem nk_74 : nkT Try.prog 74 = some .nkf := by kernel_rfl
theorem nk_75 : nkT Try.prog 75 = some .nkf := by kernel_rfl
theorem nk_76 : nkT Try.prog 76 = some .nkf := by kernel_rfl
theorem nk_77 : nkT Try.prog 77 = some .nkf := by kernel_rfl
theorem nk_78 : nkT Try.prog 78 = some .nkf := by kernel_rfl
theorem nk_79 : nkT Try.prog 79 = some .nkf := by kernel_rfl
theorem nk_80 : nkT Try.prog 80 = some .nkf := by kernel_rfl
theorem nk_81 : nkT Try.prog 81 = some .nkf := by kernel_rfl
theorem nk_82 : nkT Try.prog 82 = some .nkf := by kernel_rfl
theorem nk_83 : nkT Try.prog 83 = some .nkf := by kernel_rfl
theorem td_84 : tdat Try.prog 84 = some ⟨false, 1, 24, .slice none 0 0⟩ := by kernel_rfl
theorem zv_84 : ofV (.slice none 0 0) = .sl .full [] := by kernel_rfl
theorem tel_84 : tel Try.prog 84 = some 103 := by kernel_rfl
theorem td_85 : tdat Try.prog 85 = some ⟨true, 16, 208, .agg #[.int .u8 0, .slice none 0 0, .string ⟨#[]⟩, .slice none 0 0, .bool false, .int .u8 0, .int .u8 0, .int .i32 0, .string ⟨#[]⟩, .slice none 0 0, .slice none 0 0, .int .i64 0, .int .i64 0, .slice none 0 0, .int .i64 0, .int .i64 0]⟩ := by kernel_rfl
theorem zv_85 : ofV (.agg #[.int .u8 0, .slice none 0 0, .string ⟨#[]⟩, .slice none 0 0, .bool false, .int .u8 0, .int .u8 0, .int .i32 0, .string ⟨#[]⟩, .slice none 0 0, .slice none 0 0, .int .i64 0, .int .i64 0, .slice none 0 0, .int .i64 0, .int .i64 0]) = .ag [.v (.int .u8 0), .sl .full [], .v (.string ⟨#[]⟩), .sl .full [], .v (.bool false), .v (.int .u8 0), .v (.int .u8 0), .v (.int .i32 0), .v (.string ⟨#[]⟩), .sl .full [], .sl .full [], .v (.int .i64 0), .v (.int .i64 0), .sl .full [], .v (.int .i64 0), .v (.int .i64 0)] := by kernel_rfl
theorem tf_85 : tflds Try.prog 85 = some [(0, 1, false), (1, 1, false), (2, 1, false), (3, 1, false), (4, 1, false), (5, 8, true), (13, 1, false), (14, 2, true)] := by kernel_rfl
theorem td_86 : tdat Try.prog 86 = some ⟨true, 16, 208, .agg #[.int .u8 0, .slice none 0 0, .string ⟨#[]⟩, .slice none 0 0, .bool false, .int .u8 0, .int .u8 0, .int .i32 0, .string ⟨#[]⟩, .slice none 0 0, .slice none 0 0, .int .i64 0, .int .i64 0, .slice none 0 0, .int .i64 0, .int .i64 0]⟩ := by kernel_rfl
theorem zv_86 : ofV (.agg #[.int .u8 0, .slice none 0 0, .string ⟨#[]⟩, .slice none 0 0, .bool false, .int .u8 0, .int .u8 0, .int .i32 0, .string ⟨#[]⟩, .slice none 0 0, .slice none 0 0, .int .i64 0, .int .i64 0, .slice none 0 0, .int .i64 0, .int .i64 0]) = .ag [.v (.int .u8 0), .sl .full [], .v (.string ⟨#[]⟩), .sl .full [], .v (.bool false), .v (.int .u8 0), .v (.int .u8 0), .v (.int .i32 0), .v (.string ⟨#[]⟩), .sl .full [], .sl .full [], .v (.int .i64 0), .v (.int .i64 0), .sl .full [], .v (.int .i64 0), .v (.int .i64 0)] := by kernel_rfl
theorem tf_86 : tflds Try.prog 86 = some [(0, 1, false), (1, 1, false), (2, 1, false), (3, 1, false), (4, 1, false), (5, 8, true), (13, 1, false), (14, 2, true)] := by kernel_rfl
theorem nk_87 : nkT Try.prog 87 = some .nkf := by kernel_rfl
theorem nk_88 : nkT Try.prog 88 = some .nkf := by kernel_rfl
theorem nk_89 : nkT Try.prog 89 = some .nkf := by kernel_rfl
theorem nk_90 : nkT Try.prog 90 = some .nkf := by kernel_rfl
theorem nk_91 : nkT Try.prog 91 = some .nkf := by kernel_rfl
theorem nk_92 : nkT Try.prog 92 = some .nkp := by kernel_rfl
theorem td_92 : tdat Try.prog 92 = some ⟨false, 1, 8, .pointer none⟩ := by kernel_rfl
theorem zv_92 : ofV (.pointer none) = .v (.pointer none) := by kernel_rfl
theorem td_93 : tdat Try.prog 93 = some ⟨true, 2, 32, .agg #[.slice none 0 0, .int .i64 0]⟩ := by kernel_rfl
theorem zv_93 : ofV (.agg #[.slice none 0 0, .int .i64 0]) = .ag [.sl .full [], .v (.int .i64 0)] := by kernel_rfl
theorem tf_93 : tflds Try.prog 93 = some [(0, 1, false), (1, 1, false)] := by kernel_rfl
theorem td_94 : tdat Try.prog 94 = some ⟨true, 2, 32, .agg #[.slice none 0 0, .int .i64 0]⟩ := by kernel_rfl
theorem zv_94 : ofV (.agg #[.slice none 0 0, .int .i64 0]) = .ag [.sl .full [], .v (.int .i64 0)] := by kernel_rfl
theorem tf_94 : tflds Try.prog 94 = some [(0, 1, false), (1, 1, false)] := by kernel_rfl
theorem nk_95 : nkT Try.prog 95 = some .nkf := by kernel_rfl
theorem nk_96 : nkT Try.prog 96 = some .nkp := by kernel_rfl
theorem td_96 : tdat Try.prog 96 = some ⟨false, 1, 8, .pointer none⟩ := by kernel_rfl
theorem zv_96 : ofV (.pointer none) = .v (.pointer none) := by kernel_rfl
theorem td_97 : tdat Try.prog 97 = some ⟨true, 5, 40, .agg #[.pointer none, .int .i64 0, .int .i64 0, .int .i64 0, .bool false]⟩ := by kernel_rfl
theorem zv_97 : ofV (.agg #[.pointer none, .int .i64 0, .int .i64 0, .int .i64 0, .bool false]) = .ag [.v (.pointer none), .v (.int .i64 0), .v (.int .i64 0), .v (.int .i64 0), .v (.bool false)] := by kernel_rfl
theorem tf_97 : tflds Try.prog 97 = some [(0, 1, false), (1, 1, false), (2, 1, false), (3, 1, false), (4, 1, false)] := by kernel_rfl
theorem td_98 : tdat Try.prog 98 = some ⟨true, 5, 40, .agg #[.pointer none, .int .i64 0, .int .i64 0, .int .i64 0, .bool false]⟩ := by kernel_rfl
theorem zv_98 : ofV (.agg #[.pointer none, .int .i64 0, .int .i64 0, .int .i64 0, .bool false]) = .ag [.v (.pointer none), .v (.int .i64 0), .v (.int .i64 0), .v (.int .i64 0), .v (.bool false)] := by kernel_rfl
theorem tf_98 : tflds Try.prog 98 = some [(0, 1, false), (1, 1, false), (2, 1, false), (3, 1, false), (4, 1, false)] := by kernel_rfl
theorem nk_99 : nkT Try.prog 99 = some .nkf := by kernel_rfl
theorem nk_100 : nkT Try.prog 100 = some .nkf := by kernel_rfl
theorem td_101 : tdat Try.prog 101 = some ⟨false, 1, 24, .slice none 0 0⟩ := by kernel_rfl
theorem zv_101 : ofV (.slice none 0 0) = .sl .full [] := by kernel_rfl
theorem tel_101 : tel Try.prog 101 = some 105 := by kernel_rfl
theorem td_102 : tdat Try.prog 102 = some ⟨true, 7, 128, .agg #[.string ⟨#[]⟩, .slice none 0 0, .slice none 0 0, .slice none 0 0, .slice none 0 0, .int .i64 0, .int .i64 0]⟩ := by kernel_rfl
theorem zv_102 : ofV (.agg #[.string ⟨#[]⟩, .slice none 0 0, .slice none 0 0, .slice none 0 0, .slice none 0 0, .int .i64 0, .int .i64 0]) = .ag [.v (.string ⟨#[]⟩), .sl .full [], .sl .full [], .sl .full [], .sl .full [], .v (.int .i64 0), .v (.int .i64 0)] := by kernel_rfl
theorem tf_102 : tflds Try.prog 102 = some [(0, 1, false), (1, 2, true), (3, 1, false), (4, 1, false), (5, 2, true)] := by kernel_rfl
theorem td_103 : tdat Try.prog 103 = some ⟨true, 7, 128, .agg #[.string ⟨#[]⟩, .slice none 0 0, .slice none 0 0, .slice none 0 0, .slice none 0 0, .int .i64 0, .int .i64 0]⟩ := by kernel_rfl
theorem zv_103 : ofV (.agg #[.string ⟨#[]⟩, .slice none 0 0, .slice none 0 0, .slice none 0 0, .slice none 0 0, .int .i64 0, .int .i64 0]) = .ag [.v (.string ⟨#[]⟩), .sl .full [], .sl .full [], .sl .full [], .sl .full [], .v (.int .i64 0), .v (.int .i64 0)] := by kernel_rfl
theorem tf_103 : tflds Try.prog 103 = some [(0, 1, false), (1, 2, true), (3, 1, false), (4, 1, false), (5, 2, true)] := by kernel_rfl
theorem td_104 : tdat Try.prog 104 = some ⟨true, 12, 128, .agg #[.int .u8 0, .int .u8 0, .int .i32 0, .string ⟨#[]⟩, .slice none 0 0, .slice none 0 0, .int .i64 0, .int .i64 0, .string ⟨#[]⟩, .bool false, .int .i64 0, .int .i64 0]⟩ := by kernel_rfl
theorem zv_104 : ofV (.agg #[.int .u8 0, .int .u8 0, .int .i32 0, .string ⟨#[]⟩, .slice none 0 0, .slice none 0 0, .int .i64 0, .int .i64 0, .string ⟨#[]⟩, .bool false, .int .i64 0, .int .i64 0]) = .ag [.v (.int .u8 0), .v (.int .u8 0), .v (.int .i32 0), .v (.string ⟨#[]⟩), .sl .full [], .sl .full [], .v (.int .i64 0), .v (.int .i64 0), .v (.string ⟨#[]⟩), .v (.bool false), .v (.int .i64 0), .v (.int .i64 0)] := by kernel_rfl
theorem tf_104 : tflds Try.prog 104 = some [(0, 8, true), (8, 1, false), (9, 1, false), (10, 2, true)] := by kernel_rfl
theorem td_105 : tdat Try.prog 105 = some ⟨true, 12, 128, .agg #[.int .u8 0, .int .u8 0, .int .i32 0, .string ⟨#[]⟩, .slice none 0 0, .slice none 0 0, .int .i64 0, .int .i64 0, .string ⟨#[]⟩, .bool false, .int .i64 0, .int .i64 0]⟩ := by kernel_rfl
theorem zv_105 : ofV (.agg #[.int .u8 0, .int .u8 0, .int .i32 0, .string ⟨#[]⟩, .slice none 0 0, .slice none 0 0, .int .i64 0, .int .i64 0, .string ⟨#[]⟩, .bool false, .int .i64 0, .int .i64 0]) = .ag [.v (.int .u8 0), .v (.int .u8 0), .v (.int .i32 0), .v (.string ⟨#[]⟩), .sl .full [], .sl .full [], .v (.int .i64 0), .v (.int .i64 0), .v (.string ⟨#[]⟩), .v (.bool false), .v (.int .i64 0), .v (.int .i64 0)] := by kernel_rfl
theorem tf_105 : tflds Try.prog 105 = some [(0, 8, true), (8, 1, false), (9, 1, false), (10, 2, true)] := by kernel_rfl
theorem nk_106 : nkT Try.prog 106 = some .nkf := by kernel_rfl
theorem nk_107 : nkT Try.prog 107 = some .nkf := by kernel_rfl
theorem nk_108 : nkT Try.prog 108 = some .nkf := by kernel_rfl
theorem nk_109 : nkT Try.prog 109 = some .nkf := by kernel_rfl
theorem nk_110 : nkT Try.prog 110 = some .nkf := by kernel_rfl
theorem nk_111 : nkT Try.prog 111 = some .nkf := by kernel_rfl
theorem nk_112 : nkT Try.prog 112 = some .nkf := by kernel_rfl
theorem nk_113 : nkT Try.prog 113 = some .nkf := by kernel_rfl
theorem nk_114 : nkT Try.prog 114 = some .nkf := by kernel_rfl
theorem nk_115 : nkT Try.prog 115 = some .nkf := by kernel_rfl
theorem nk_116 : nkT Try.prog 116 = some .nkf := by kernel_rfl
theorem nk_117 : nkT Try.prog 117 = some .nkf := by kernel_rfl
theorem nk_118 : nkT Try.prog 118 = some .nkp := by kernel_rfl
theorem td_118 : tdat Try.prog 118 = some ⟨false, 1, 8, .pointer none⟩ := by kernel_rfl
theorem zv_118 : ofV (.pointer none) = .v (.pointer none) := by kernel_rfl
theorem td_119 : tdat Try.prog 119 = some ⟨true, 1, 8, .agg #[.int .i64 0]⟩ := by kernel_rfl
theorem zv_119 : ofV (.agg #[.int .i64 0]) = .ag [.v (.int .i64 0)] := by kernel_rfl
theorem tf_119 : tflds Try.prog 119 = some [(0, 1, false)] := by kernel_rfl
theorem fl_119 : flat1 Try.prog 119 = some [.ski] := by kernel_rfl
theorem td_120 : tdat Try.prog 120 = some ⟨true, 1, 8, .agg #[.int .i64 0]⟩ := by kernel_rfl
theorem zv_120 : ofV (.agg #[.int .i64 0]) = .ag [.v (.int .i64 0)] := by kernel_rfl
theorem tf_120 : tflds Try.prog 120 = some [(0, 1, false)] := by kernel_rfl
theorem fl_120 : flat1 Try.prog 120 = some [.ski] := by kernel_rfl
theorem nk_121 : nkT Try.prog 121 = some .nkf := by kernel_rfl
theorem nk_122 : nkT Try.prog 122 = some .nkf := by kernel_rfl
theorem nk_123 : nkT Try.prog 123 = some .nkp := by kernel_rfl
theorem td_123 : tdat Try.prog 123 = some ⟨false, 1, 8, .pointer none⟩ := by kernel_rfl
theorem zv_123 : ofV (.pointer none) = .v (.pointer none) := by kernel_rfl
theorem td_124 : tdat Try.prog 124 = some ⟨true, 3, 24, .agg #[.int .i64 0, .int .i64 0, .int .i64 0]⟩ := by kernel_rfl
theorem zv_124 : ofV (.agg #[.int .i64 0, .int .i64 0, .int .i64 0]) = .ag [.v (.int .i64 0), .v (.int .i64 0), .v (.int .i64 0)] := by kernel_rfl
theorem tf_124 : tflds Try.prog 124 = some [(0, 1, false), (1, 1, false), (2, 1, false)] := by kernel_rfl
theorem fl_124 : flat1 Try.prog 124 = some [.ski, .ski, .ski] := by kernel_rfl
theorem td_125 : tdat Try.prog 125 = some ⟨true, 3, 24, .agg #[.int .i64 0, .int .i64 0, .int .i64 0]⟩ := by kernel_rfl
theorem zv_125 : ofV (.agg #[.int .i64 0, .int .i64 0, .int .i64 0]) = .ag [.v (.int .i64 0), .v (.int .i64 0), .v (.int .i64 0)] := by kernel_rfl
theorem tf_125 : tflds Try.prog 125 = some [(0, 1, false), (1, 1, false), (2, 1, false)] := by kernel_rfl
theorem fl_125 : flat1 Try.prog 125 = some [.ski, .ski, .ski] := by kernel_rfl
theorem nk_126 : nkT Try.prog 126 = some .nkf := by kernel_rfl
theorem nk_127 : nkT Try.prog 127 = some .nkf := by kernel_rfl
theorem nk_128 : nkT Try.prog 128 = some .nkf := by kernel_rfl
theorem nk_129 : nkT Try.prog 129 = some .nkf := by kernel_rfl
theorem nk_130 : nkT Try.prog 130 = some .nkf := by kernel_rfl
theorem nk_131 : nkT Try.prog 131 = some .nkf := by kernel_rfl
theorem nk_132 : nkT Try.prog 132 = some .nkf := by kernel_rfl
theorem nk_133 : nkT Try.prog 133 = some .nkf := by kernel_rfl
theorem nk_134 : nkT Try.prog 134 = some .nkf := by kernel_rfl
theorem nk_135 : nkT Try.prog 135 = some .nkf := by kernel_rfl
theorem nk_136 : nkT Try.prog 136 = some .nkf := by kernel_rfl
theorem nk_137 : nkT Try.prog 137 = some .nkf := by kernel_rfl
theorem nk_138 : nkT Try.prog 138 = some .nkf := by kernel_rfl
theorem nk_139 : nkT Try.prog 139 = some .nkf := by kernel_rfl
theorem nk_140 : nkT Try.prog 140 = some .nkf := by kernel_rfl
theorem nk_141 : nkT Try.prog 141 = some .nkf := by kernel_rfl
theorem nk_142 : nkT Try.prog 142 = some .nkf := by kernel_rfl
theorem td_143 : tdat Try.prog 143 = some ⟨true, 3, 72, .agg #[.slice none 0 0, .slice none 0 0, .slice none 0 0]⟩ := by kernel_rfl
theorem zv_143 : ofV (.agg #[.slice none 0 0, .slice none 0 0, .slice none 0 0]) = .ag [.sl .full [], .sl .full [], .sl .full []] := by kernel_rfl
theorem tf_143 : tflds Try.prog 143 = some [(0, 1, false), (1, 1, false), (2, 1, false)] := by kernel_rfl
theorem td_144 : tdat Try.prog 144 = some ⟨true, 3, 72, .agg #[.slice none 0 0, .slice none 0 0, .slice none 0 0]⟩ := by kernel_rfl
theorem zv_144 : ofV (.agg #[.slice none 0 0, .slice none 0 0, .slice none 0 0]) = .ag [.sl .full [], .sl .full [], .sl .full []] := by kernel_rfl
theorem tf_144 : tflds Try.prog 144 = some [(0, 1, false), (1, 1, false), (2, 1, false)] := by kernel_rfl
theorem nk_145 : nkT Try.prog 145 = some .nkf := by kernel_rfl
theorem nk_146 : nkT Try.prog 146 = some .nkf := by kernel_rfl
theorem nk_147 : nkT Try.prog 147 = some .nkf := by kernel_rfl
theorem td_148 : tdat Try.prog 148 = some ⟨false, 1, 24, .slice none 0 0⟩ := by kernel_rfl
theorem zv_148 : ofV (.slice none 0 0) = .sl .full [] := by kernel_rfl
theorem tel_148 : tel Try.prog 148 = some 101 := by kernel_rfl
theorem nk_149 : nkT Try.prog 149 = some .nkf := by kernel_rfl
theorem nk_150 : nkT Try.prog 150 = some .nkf := by kernel_rfl
theorem nk_151 : nkT Try.prog 151 = some .nkf := by kernel_rfl
theorem nk_152 : nkT Try.prog 152 = some .nkf := by kernel_rfl
theorem nk_153 : nkT Try.prog 153 = some .nkf := by kernel_rfl
theorem td_154 : tdat Try.prog 154 = some ⟨false, 1, 24, .slice none 0 0⟩ := by kernel_rfl
theorem zv_154 : ofV (.slice none 0 0) = .sl .full [] := by kernel_rfl
theorem tel_154 : tel Try.prog 154 = some 21 := by kernel_rfl
theorem nk_155 : nkT Try.prog 155 = some .nkf := by kernel_rfl
theorem nk_156 : nkT Try.prog 156 = some .nkf := by kernel_rfl
theorem nk_158 : nkT Try.prog 158 = some .nkf := by kernel_rfl
theorem nk_159 : nkT Try.prog 159 = some .nkf := by kernel_rfl
theorem nk_160 : nkT Try.prog 160 = some .nkf := by kernel_rfl
theorem nk_161 : nkT Try.prog 161 = some .nkf := by kernel_rfl
theorem nk_162 : nkT Try.prog 162 = some .nkf := by kernel_rfl
theorem nk_163 : nkT Try.prog 163 = some .nkf := by kernel_rfl
theorem nk_164 : nkT Try.prog 164 = some .nkf := by kernel_rfl
theorem nk_166 : nkT Try.prog 166 = some .nkf := by kernel_rfl
theorem nk_167 : nkT Try.prog 167 = some .nkf := by kernel_rfl
theorem td_168 : tdat Try.prog 168 = some ⟨true, 4, 40, .agg #[.pointer none, .pointer none, .pointer none, .string ⟨#[]⟩]⟩ := by kernel_rfl
theorem zv_168 : ofV (.agg #[.pointer none, .pointer none, .pointer none, .string ⟨#[]⟩]) = .ag [.v (.pointer none), .v (.pointer none), .v (.pointer none), .v (.string ⟨#[]⟩)] := by kernel_rfl
theorem tf_168 : tflds Try.prog 168 = some [(0, 1, false), (1, 1, false), (2, 1, false), (3, 1, false)] := by kernel_rfl
theorem td_169 : tdat Try.prog 169 = some ⟨true, 4, 40, .agg #[.pointer none, .pointer none, .pointer none, .string ⟨#[]⟩]⟩ := by kernel_rfl
theorem zv_169 : ofV (.agg #[.pointer none, .pointer none, .pointer none, .string ⟨#[]⟩]) = .ag [.v (.pointer none), .v (.pointer none), .v (.pointer none), .v (.string ⟨#[]⟩)] := by kernel_rfl
theorem tf_169 : tflds Try.prog 169 = some [(0, 1, false), (1, 1, false), (2, 1, false), (3, 1, false)] := by kernel_rfl
theorem td_170 : tdat Try.prog 170 = some ⟨true, 0, 0, .agg #[]⟩ := by kernel_rfl
theorem zv_170 : ofV (.agg #[]) = .ag [] := by kernel_rfl
theorem tf_170 : tflds Try.prog 170 = none := by kernel_rfl
theorem tel_170 : tel Try.prog 170 = none := by kernel_rfl
theorem ta_170 : tarr Try.prog 170 = some (0, 16) := by kernel_rfl
theorem td_171 : tdat Try.prog 171 = some ⟨true, 0, 0, .agg #[]⟩ := by kernel_rfl
theorem zv_171 : ofV (.agg #[]) = .ag [] := by kernel_rfl
theorem tf_171 : tflds Try.prog 171 = some [(0, 0, true)] := by kernel_rfl
theorem td_172 : tdat Try.prog 172 = some ⟨true, 0, 0, .agg #[]⟩ := by kernel_rfl
theorem zv_172 : ofV (.agg #[]) = .ag [] := by kernel_rfl
theorem tf_172 : tflds Try.prog 172 = some [(0, 0, true)] := by kernel_rfl
theorem nk_173 : nkT Try.prog 173 = some .nkf := by kernel_rfl
theorem td_174 : tdat Try.prog 174 = some ⟨false, 1, 4, .int .u32 0⟩ := by kernel_rfl
theorem zv_174 : ofV (.int .u32 0) = .v (.int .u32 0) := by kernel_rfl
theorem td_175 : tdat Try.prog 175 = some ⟨false, 1, 1, .int .u8 0⟩ := by kernel_rfl
theorem zv_175 : ofV (.int .u8 0) = .v (.int .u8 0) := by kernel_rfl
theorem td_176 : tdat Try.prog 176 = some ⟨false, 1, 1, .int .u8 0⟩ := by kernel_rfl
theorem zv_176 : ofV (.int .u8 0) = .v (.int .u8 0) := by kernel_rfl
theorem nk_177 : nkT Try.prog 177 = some .nkf := by kernel_rfl
theorem nk_178 : nkT Try.prog 178 = some .nkp := by kernel_rfl
theorem td_178 : tdat Try.prog 178 = some ⟨false, 1, 8, .pointer none⟩ := by kernel_rfl
theorem zv_178 : ofV (.pointer none) = .v (.pointer none) := by kernel_rfl
theorem td_179 : tdat Try.prog 179 = some ⟨false, 1, 4, .int .i32 0⟩ := by kernel_rfl
theorem zv_179 : ofV (.int .i32 0) = .v (.int .i32 0) := by kernel_rfl
theorem td_180 : tdat Try.prog 180 = some ⟨false, 1, 4, .int .i32 0⟩ := by kernel_rfl
theorem zv_180 : ofV (.int .i32 0) = .v (.int .i32 0) := by kernel_rfl
theorem td_181 : tdat Try.prog 181 = some ⟨true, 11, 48, .agg #[.int .u64 0, .int .u64 0, .int .u32 0, .int .u8 0, .int .u8 0, .int .u8 0, .int .u8 0, .nilFunc, .pointer none, .int .i32 0, .int .i32 0]⟩ := by kernel_rfl
theorem zv_181 : ofV (.agg #[.int .u64 0, .int .u64 0, .int .u32 0, .int .u8 0, .int .u8 0, .int .u8 0, .int .u8 0, .nilFunc, .pointer none, .int .i32 0, .int .i32 0]) = .ag [.v (.int .u64 0), .v (.int .u64 0), .v (.int .u32 0), .v (.int .u8 0), .v (.int .u8 0), .v (.int .u8 0), .v (.int .u8 0), .v .nilFunc, .v (.pointer none), .v (.int .i32 0), .v (.int .i32 0)] := by kernel_rfl
theorem tf_181 : tflds Try.prog 181 = some [(0, 1, false), (1, 1, false), (2, 1, false), (3, 1, false), (4, 1, false), (5, 1, false), (6, 1, false), (7, 1, false), (8, 1, false), (9, 1, false), (10, 1, false)] := by kernel_rfl
theorem td_182 : tdat Try.prog 182 = some ⟨true, 11, 48, .agg #[.int .u64 0, .int .u64 0, .int .u32 0, .int .u8 0, .int .u8 0, .int .u8 0, .int .u8 0, .nilFunc, .pointer none, .int .i32 0, .int .i32 0]⟩ := by kernel_rfl
theorem zv_182 : ofV (.agg #[.int .u64 0, .int .u64 0, .int .u32 0, .int .u8 0, .int .u8 0, .int .u8 0, .int .u8 0, .nilFunc, .pointer none, .int .i32 0, .int .i32 0]) = .ag [.v (.int .u64 0), .v (.int .u64 0), .v (.int .u32 0), .v (.int .u8 0), .v (.int .u8 0), .v (.int .u8 0), .v (.int .u8 0), .v .nilFunc, .v (.pointer none), .v (.int .i32 0), .v (.int .i32 0)] := by kernel_rfl
theorem tf_182 : tflds Try.prog 182 = some [(0, 1, false), (1, 1, false), (2, 1, false), (3, 1, false), (4, 1, false), (5, 1, false), (6, 1, false), (7, 1, false), (8, 1, false), (9, 1, false), (10, 1, false)] := by kernel_rfl
theorem td_183 : tdat Try.prog 183 = some ⟨false, 1, 8, .pointer none⟩ := by kernel_rfl
theorem zv_183 : ofV (.pointer none) = .v (.pointer none) := by kernel_rfl
set_option linter.defProp false
def tfA0 := And.intro @nk_1 (And.intro @td_2 (And.intro @zv_2 (And.intro @Try.underlying2 (And.intro @td_3 (And.intro @zv_3 (And.intro @Try.underlying3 (And.intro @td_4 (And.intro @zv_4 (And.intro @Try.underlying4 (And.intro @td_5 (And.intro @zv_5 (And.intro @Try.underlying5 (And.intro @td_6 (And.intro @zv_6 (And.intro @Try.underlying6 (And.intro @td_7 (And.intro @zv_7 (And.intro @tf_7 (And.intro @td_8 (And.intro @zv_8 (And.intro @tf_8 (And.intro @td_9 (And.intro @zv_9 (And.intro @Try.underlying9 (And.intro @td_10 (And.intro @zv_10 (And.intro @Try.underlying10 (And.intro @td_11 @zv_11))))))))))))))))))))))))))))
def tfA1 := And.intro @Try.underlying11 (And.intro @td_12 (And.intro @zv_12 (And.intro @Try.underlying12 (And.intro @td_13 (And.intro @zv_13 (And.intro @tf_13 (And.intro @td_14 (And.intro @zv_14 (And.intro @tf_14 (And.intro @nk_15 (And.intro @td_15 (And.intro @zv_15 (And.intro @Try.underlying15 (And.intro @nk_16 (And.intro @td_16 (And.intro @zv_16 (And.intro @Try.underlying16 (And.intro @nk_17 (And.intro @td_17 (And.intro @zv_17 (And.intro @Try.underlying17 (And.intro @td_18 (And.intro @zv_18 (And.intro @tf_18 (And.intro @td_19 (And.intro @zv_19 (And.intro @tf_19 (And.intro @nk_20 @td_20))))))))))))))))))))))))))))
def tfA2 := And.intro @zv_20 (And.intro @td_21 (And.intro @zv_21 (And.intro @Try.underlying21 (And.intro @td_22 (And.intro @zv_22 (And.intro @tel_22 (And.intro @Try.underlying22 (And.intro @td_23 (And.intro @zv_23 (And.intro @Try.underlying23 (And.intro @nk_24 (And.intro @td_25 (And.intro @zv_25 (And.intro @tel_25 (And.intro @Try.underlying25 (And.intro @td_26 (And.intro @zv_26 (And.intro @tel_26 (And.intro @Try.underlying26 (And.intro @td_27 (And.intro @zv_27 (And.intro @tf_27 (And.intro @td_28 (And.intro @zv_28 (And.intro @tf_28 (And.intro @nk_29 (And.intro @td_30 (And.intro @zv_30 @tel_30))))))))))))))))))))))))))))
def tfA3 := And.intro @Try.underlying30 (And.intro @nk_31 (And.intro @td_32 (And.intro @zv_32 (And.intro @tel_32 (And.intro @Try.underlying32 (And.intro @td_33 (And.intro @zv_33 (And.intro @tel_33 (And.intro @Try.underlying33 (And.intro @td_34 (And.intro @zv_34 (And.intro @tf_34 (And.intro @td_35 (And.intro @zv_35 (And.intro @tf_35 (And.intro @td_36 (And.intro @zv_36 (And.intro @tf_36 (And.intro @fl_36 (And.intro @td_37 (And.intro @zv_37 (And.intro @tf_37 (And.intro @fl_37 (And.intro @td_38 (And.intro @zv_38 (And.intro @tf_38 (And.intro @td_39 (And.intro @zv_39 @tf_39))))))))))))))))))))))))))))
def tfA4 := And.intro @nk_40 (And.intro @td_41 (And.intro @zv_41 (And.intro @tel_41 (And.intro @Try.underlying41 (And.intro @nk_42 (And.intro @td_43 (And.intro @zv_43 (And.intro @tf_43 (And.intro @td_44 (And.intro @zv_44 (And.intro @tf_44 (And.intro @nk_45 (And.intro @nk_46 (And.intro @nk_47 (And.intro @td_48 (And.intro @zv_48 (And.intro @tf_48 (And.intro @fl_48 (And.intro @td_49 (And.intro @zv_49 (And.intro @tf_49 (And.intro @fl_49 (And.intro @td_50 (And.intro @zv_50 (And.intro @tel_50 (And.intro @Try.underlying50 (And.intro @td_51 (And.intro @zv_51 @tf_51))))))))))))))))))))))))))))
def tfA5 := And.intro @td_52 (And.intro @zv_52 (And.intro @tf_52 (And.intro @nk_53 (And.intro @nk_54 (And.intro @nk_55 (And.intro @nk_57 (And.intro @nk_58 (And.intro @nk_59 (And.intro @nk_60 (And.intro @nk_61 (And.intro @td_62 (And.intro @zv_62 (And.intro @tf_62 (And.intro @fl_62 (And.intro @td_63 (And.intro @zv_63 (And.intro @tf_63 (And.intro @fl_63 (And.intro @nk_64 (And.intro @nk_65 (And.intro @td_66 (And.intro @zv_66 (And.intro @tel_66 (And.intro @Try.underlying66 (And.intro @td_67 (And.intro @zv_67 (And.intro @tf_67 (And.intro @td_68 @zv_68))))))))))))))))))))))))))))
def tfA6 := And.intro @tf_68 (And.intro @nk_70 (And.intro @nk_71 (And.intro @nk_72 (And.intro @nk_73 (And.intro @nk_74 (And.intro @nk_75 (And.intro @nk_76 (And.intro @nk_77 (And.intro @nk_78 (And.intro @nk_79 (And.intro @nk_80 (And.intro @nk_81 (And.intro @nk_82 (And.intro @nk_83 (And.intro @td_84 (And.intro @zv_84 (And.intro @tel_84 (And.intro @Try.underlying84 (And.intro @td_85 (And.intro @zv_85 (And.intro @tf_85 (And.intro @td_86 (And.intro @zv_86 (And.intro @tf_86 (And.intro @nk_87 (And.intro @nk_88 (And.intro @nk_89 (And.intro @nk_90 @nk_91))))))))))))))))))))))))))))
def tfA7 := And.intro @nk_92 (And.intro @td_92 (And.intro @zv_92 (And.intro @Try.underlying92 (And.intro @td_93 (And.intro @zv_93 (And.intro @tf_93 (And.intro @td_94 (And.intro @zv_94 (And.intro @tf_94 (And.intro @nk_95 (And.intro @nk_96 (And.intro @td_96 (And.intro @zv_96 (And.intro @Try.underlying96 (And.intro @td_97 (And.intro @zv_97 (And.intro @tf_97 (And.intro @td_98 (And.intro @zv_98 (And.intro @tf_98 (And.intro @nk_99 (And.intro @nk_100 (And.intro @td_101 (And.intro @zv_101 (And.intro @tel_101 (And.intro @Try.underlying101 (And.intro @td_102 (And.intro @zv_102 @tf_102))))))))))))))))))))))))))))
def tfA8 := And.intro @td_103 (And.intro @zv_103 (And.intro @tf_103 (And.intro @td_104 (And.intro @zv_104 (And.intro @tf_104 (And.intro @td_105 (And.intro @zv_105 (And.intro @tf_105 (And.intro @nk_106 (And.intro @nk_107 (And.intro @nk_108 (And.intro @nk_109 (And.intro @nk_110 (And.intro @nk_111 (And.intro @nk_112 (And.intro @nk_113 (And.intro @nk_114 (And.intro @nk_115 (And.intro @nk_116 (And.intro @nk_117 (And.intro @nk_118 (And.intro @td_118 (And.intro @zv_118 (And.intro @Try.underlying118 (And.intro @td_119 (And.intro @zv_119 (And.intro @tf_119 (And.intro @fl_119 @td_120))))))))))))))))))))))))))))
def tfA9 := And.intro @zv_120 (And.intro @tf_120 (And.intro @fl_120 (And.intro @nk_121 (And.intro @nk_122 (And.intro @nk_123 (And.intro @td_123 (And.intro @zv_123 (And.intro @Try.underlying123 (And.intro @td_124 (And.intro @zv_124 (And.intro @tf_124 (And.intro @fl_124 (And.intro @td_125 (And.intro @zv_125 (And.intro @tf_125 (And.intro @fl_125 (And.intro @nk_126 (And.intro @nk_127 (And.intro @nk_128 (And.intro @nk_129 (And.intro @nk_130 (And.intro @nk_131 (And.intro @nk_132 (And.intro @nk_133 (And.intro @nk_134 (And.intro @nk_135 (And.intro @nk_136 (And.intro @nk_137 @nk_138))))))))))))))))))))))))))))
def tfA10 := And.intro @nk_139 (And.intro @nk_140 (And.intro @nk_141 (And.intro @nk_142 (And.intro @td_143 (And.intro @zv_143 (And.intro @tf_143 (And.intro @td_144 (And.intro @zv_144 (And.intro @tf_144 (And.intro @nk_145 (And.intro @nk_146 (And.intro @nk_147 (And.intro @td_148 (And.intro @zv_148 (And.intro @tel_148 (And.intro @Try.underlying148 (And.intro @nk_149 (And.intro @nk_150 (And.intro @nk_151 (And.intro @nk_152 (And.intro @nk_153 (And.intro @td_154 (And.intro @zv_154 (And.intro @tel_154 (And.intro @Try.underlying154 (And.intro @nk_155 (And.intro @nk_156 (And.intro @nk_158 @nk_159))))))))))))))))))))))))))))
def tfA11 := And.intro @nk_160 (And.intro @nk_161 (And.intro @nk_162 (And.intro @nk_163 (And.intro @nk_164 (And.intro @nk_166 (And.intro @nk_167 (And.intro @td_168 (And.intro @zv_168 (And.intro @tf_168 (And.intro @td_169 (And.intro @zv_169 (And.intro @tf_169 (And.intro @td_170 (And.intro @zv_170 (And.intro @tf_170 (And.intro @tel_170 (And.intro @ta_170 (And.intro @Try.underlying170 (And.intro @td_171 (And.intro @zv_171 (And.intro @tf_171 (And.intro @td_172 (And.intro @zv_172 (And.intro @tf_172 (And.intro @nk_173 (And.intro @td_174 (And.intro @zv_174 (And.intro @Try.underlying174 @td_175))))))))))))))))))))))))))))
def tfA12 := And.intro @zv_175 (And.intro @Try.underlying175 (And.intro @td_176 (And.intro @zv_176 (And.intro @Try.underlying176 (And.intro @nk_177 (And.intro @nk_178 (And.intro @td_178 (And.intro @zv_178 (And.intro @Try.underlying178 (And.intro @td_179 (And.intro @zv_179 (And.intro @Try.underlying179 (And.intro @td_180 (And.intro @zv_180 (And.intro @Try.underlying180 (And.intro @td_181 (And.intro @zv_181 (And.intro @tf_181 (And.intro @td_182 (And.intro @zv_182 (And.intro @tf_182 (And.intro @td_183 @zv_183))))))))))))))))))))))
def tfA := And.intro @tfA0 (And.intro @tfA1 (And.intro @tfA2 (And.intro @tfA3 (And.intro @tfA4 (And.intro @tfA5 (And.intro @tfA6 (And.intro @tfA7 (And.intro @tfA8 (And.intro @tfA9 (And.intro @tfA10 (And.intro @tfA11 @tfA12)))))))))))
end Go.Proofs.Ytibhhoknipdlpaa
