/-
 Closed facts on the types of this seat.
-/
-- halved
import Derived.Test.YtohgdopfjkjppaaGreatDoorRows
import Derived.Test.YtohgdopfjkjppaaGreatDoorWpA
import Derived.KernelRfl
namespace Go.Proofs.YtohgdopfjkjppaaGreatDoor
open Go Go.RowKit
theorem ok_mix : Tryz.prog.follows .mixedOrders = true := by kernel_rfl
theorem nk_1 : nkT Tryz.prog 1 = some .nkf := by kernel_rfl
theorem td_2 : tdat Tryz.prog 2 = some ⟨false, 1, 8, .int .i64 0⟩ := by kernel_rfl
theorem zv_2 : ofV (.int .i64 0) = .v (.int .i64 0) := by kernel_rfl
theorem td_3 : tdat Tryz.prog 3 = some ⟨false, 1, 8, .int .i64 0⟩ := by kernel_rfl
theorem zv_3 : ofV (.int .i64 0) = .v (.int .i64 0) := by kernel_rfl
theorem td_4 : tdat Tryz.prog 4 = some ⟨false, 1, 1, .bool false⟩ := by kernel_rfl
theorem zv_4 : ofV (.bool false) = .v (.bool false) := by kernel_rfl
theorem td_5 : tdat Tryz.prog 5 = some ⟨false, 1, 1, .int .u8 0⟩ := by kernel_rfl
theorem zv_5 : ofV (.int .u8 0) = .v (.int .u8 0) := by kernel_rfl
theorem td_6 : tdat Tryz.prog 6 = some ⟨false, 1, 1, .int .u8 0⟩ := by kernel_rfl
theorem zv_6 : ofV (.int .u8 0) = .v (.int .u8 0) := by kernel_rfl
theorem td_7 : tdat Tryz.prog 7 = some ⟨true, 4, 24, .agg #[.int .i64 0, .int .i64 0, .bool false, .int .u8 0]⟩ := by kernel_rfl
theorem zv_7 : ofV (.agg #[.int .i64 0, .int .i64 0, .bool false, .int .u8 0]) = .ag [.v (.int .i64 0), .v (.int .i64 0), .v (.bool false), .v (.int .u8 0)] := by kernel_rfl
theorem tf_7 : tflds Tryz.prog 7 = some [(0, 1, false), (1, 1, false), (2, 1, false), (3, 1, false)] := by kernel_rfl
theorem td_8 : tdat Tryz.prog 8 = some ⟨true, 4, 24, .agg #[.int .i64 0, .int .i64 0, .bool false, .int .u8 0]⟩ := by kernel_rfl
theorem zv_8 : ofV (.agg #[.int .i64 0, .int .i64 0, .bool false, .int .u8 0]) = .ag [.v (.int .i64 0), .v (.int .i64 0), .v (.bool false), .v (.int .u8 0)] := by kernel_rfl
theorem tf_8 : tflds Tryz.prog 8 = some [(0, 1, false), (1, 1, false), (2, 1, false), (3, 1, false)] := by kernel_rfl
theorem td_9 : tdat Tryz.prog 9 = some ⟨false, 1, 16, .string ⟨#[]⟩⟩ := by kernel_rfl
theorem zv_9 : ofV (.string ⟨#[]⟩) = .v (.string ⟨#[]⟩) := by kernel_rfl
theorem td_10 : tdat Tryz.prog 10 = some ⟨false, 1, 16, .string ⟨#[]⟩⟩ := by kernel_rfl
theorem zv_10 : ofV (.string ⟨#[]⟩) = .v (.string ⟨#[]⟩) := by kernel_rfl
theorem td_11 : tdat Tryz.prog 11 = some ⟨false, 1, 16, .string ⟨#[]⟩⟩ := by kernel_rfl
theorem zv_11 : ofV (.string ⟨#[]⟩) = .v (.string ⟨#[]⟩) := by kernel_rfl
theorem td_12 : tdat Tryz.prog 12 = some ⟨false, 1, 8, .int .u64 0⟩ := by kernel_rfl
theorem zv_12 : ofV (.int .u64 0) = .v (.int .u64 0) := by kernel_rfl
theorem td_13 : tdat Tryz.prog 13 = some ⟨true, 2, 24, .agg #[.string ⟨#[]⟩, .int .u64 0]⟩ := by kernel_rfl
theorem zv_13 : ofV (.agg #[.string ⟨#[]⟩, .int .u64 0]) = .ag [.v (.string ⟨#[]⟩), .v (.int .u64 0)] := by kernel_rfl
theorem tf_13 : tflds Tryz.prog 13 = some [(0, 1, false), (1, 1, false)] := by kernel_rfl
theorem td_14 : tdat Tryz.prog 14 = some ⟨true, 2, 24, .agg #[.string ⟨#[]⟩, .int .u64 0]⟩ := by kernel_rfl
theorem zv_14 : ofV (.agg #[.string ⟨#[]⟩, .int .u64 0]) = .ag [.v (.string ⟨#[]⟩), .v (.int .u64 0)] := by kernel_rfl
theorem tf_14 : tflds Tryz.prog 14 = some [(0, 1, false), (1, 1, false)] := by kernel_rfl
theorem nk_15 : nkT Tryz.prog 15 = some .nkp := by kernel_rfl
theorem td_15 : tdat Tryz.prog 15 = some ⟨false, 1, 8, .pointer none⟩ := by kernel_rfl
theorem zv_15 : ofV (.pointer none) = .v (.pointer none) := by kernel_rfl
theorem nk_16 : nkT Tryz.prog 16 = some .nkp := by kernel_rfl
theorem td_16 : tdat Tryz.prog 16 = some ⟨false, 1, 8, .pointer none⟩ := by kernel_rfl
theorem zv_16 : ofV (.pointer none) = .v (.pointer none) := by kernel_rfl
theorem nk_17 : nkT Tryz.prog 17 = some .nkp := by kernel_rfl
theorem td_17 : tdat Tryz.prog 17 = some ⟨false, 1, 8, .pointer none⟩ := by kernel_rfl
theorem zv_17 : ofV (.pointer none) = .v (.pointer none) := by kernel_rfl
theorem td_18 : tdat Tryz.prog 18 = some ⟨true, 1, 8, .agg #[.pointer none]⟩ := by kernel_rfl
theorem zv_18 : ofV (.agg #[.pointer none]) = .ag [.v (.pointer none)] := by kernel_rfl
theorem tf_18 : tflds Tryz.prog 18 = some [(0, 1, false)] := by kernel_rfl
theorem td_19 : tdat Tryz.prog 19 = some ⟨true, 1, 8, .agg #[.pointer none]⟩ := by kernel_rfl
theorem zv_19 : ofV (.agg #[.pointer none]) = .ag [.v (.pointer none)] := by kernel_rfl
theorem tf_19 : tflds Tryz.prog 19 = some [(0, 1, false)] := by kernel_rfl
theorem nk_20 : nkT Tryz.prog 20 = some .nki := by kernel_rfl
theorem td_20 : tdat Tryz.prog 20 = some ⟨false, 1, 16, .nilIface⟩ := by kernel_rfl
theorem zv_20 : ofV (.nilIface) = .v .nilIface := by kernel_rfl
theorem td_21 : tdat Tryz.prog 21 = some ⟨false, 1, 4, .int .i32 0⟩ := by kernel_rfl
theorem zv_21 : ofV (.int .i32 0) = .v (.int .i32 0) := by kernel_rfl
theorem td_22 : tdat Tryz.prog 22 = some ⟨false, 1, 24, .slice none 0 0⟩ := by kernel_rfl
theorem zv_22 : ofV (.slice none 0 0) = .sl .full [] := by kernel_rfl
theorem tel_22 : tel Tryz.prog 22 = some 5 := by kernel_rfl
theorem nk_23 : nkT Tryz.prog 23 = some .nkf := by kernel_rfl
theorem td_24 : tdat Tryz.prog 24 = some ⟨false, 1, 24, .slice none 0 0⟩ := by kernel_rfl
theorem zv_24 : ofV (.slice none 0 0) = .sl .full [] := by kernel_rfl
theorem tel_24 : tel Tryz.prog 24 = some 9 := by kernel_rfl
theorem td_25 : tdat Tryz.prog 25 = some ⟨false, 1, 24, .slice none 0 0⟩ := by kernel_rfl
theorem zv_25 : ofV (.slice none 0 0) = .sl .full [] := by kernel_rfl
theorem tel_25 : tel Tryz.prog 25 = some 29 := by kernel_rfl
theorem td_26 : tdat Tryz.prog 26 = some ⟨true, 2, 16, .agg #[.int .i64 0, .int .i64 0]⟩ := by kernel_rfl
theorem zv_26 : ofV (.agg #[.int .i64 0, .int .i64 0]) = .ag [.v (.int .i64 0), .v (.int .i64 0)] := by kernel_rfl
theorem tf_26 : tflds Tryz.prog 26 = some [(0, 1, false), (1, 1, false)] := by kernel_rfl
theorem fl_26 : flat1 Tryz.prog 26 = some [.ski, .ski] := by kernel_rfl
theorem td_27 : tdat Tryz.prog 27 = some ⟨true, 2, 16, .agg #[.int .i64 0, .int .i64 0]⟩ := by kernel_rfl
theorem zv_27 : ofV (.agg #[.int .i64 0, .int .i64 0]) = .ag [.v (.int .i64 0), .v (.int .i64 0)] := by kernel_rfl
theorem tf_27 : tflds Tryz.prog 27 = some [(0, 1, false), (1, 1, false)] := by kernel_rfl
theorem fl_27 : flat1 Tryz.prog 27 = some [.ski, .ski] := by kernel_rfl
theorem td_28 : tdat Tryz.prog 28 = some ⟨true, 8, 88, .agg #[.int .u8 0, .int .u8 0, .int .i32 0, .string ⟨#[]⟩, .slice none 0 0, .slice none 0 0, .int .i64 0, .int .i64 0]⟩ := by kernel_rfl
theorem zv_28 : ofV (.agg #[.int .u8 0, .int .u8 0, .int .i32 0, .string ⟨#[]⟩, .slice none 0 0, .slice none 0 0, .int .i64 0, .int .i64 0]) = .ag [.v (.int .u8 0), .v (.int .u8 0), .v (.int .i32 0), .v (.string ⟨#[]⟩), .sl .full [], .sl .full [], .v (.int .i64 0), .v (.int .i64 0)] := by kernel_rfl
theorem tf_28 : tflds Tryz.prog 28 = some [(0, 1, false), (1, 1, false), (2, 1, false), (3, 1, false), (4, 1, false), (5, 1, false), (6, 2, true)] := by kernel_rfl
theorem td_29 : tdat Tryz.prog 29 = some ⟨true, 8, 88, .agg #[.int .u8 0, .int .u8 0, .int .i32 0, .string ⟨#[]⟩, .slice none 0 0, .slice none 0 0, .int .i64 0, .int .i64 0]⟩ := by kernel_rfl
theorem zv_29 : ofV (.agg #[.int .u8 0, .int .u8 0, .int .i32 0, .string ⟨#[]⟩, .slice none 0 0, .slice none 0 0, .int .i64 0, .int .i64 0]) = .ag [.v (.int .u8 0), .v (.int .u8 0), .v (.int .i32 0), .v (.string ⟨#[]⟩), .sl .full [], .sl .full [], .v (.int .i64 0), .v (.int .i64 0)] := by kernel_rfl
theorem tf_29 : tflds Tryz.prog 29 = some [(0, 1, false), (1, 1, false), (2, 1, false), (3, 1, false), (4, 1, false), (5, 1, false), (6, 2, true)] := by kernel_rfl
theorem nk_30 : nkT Tryz.prog 30 = some .nki := by kernel_rfl
theorem td_30 : tdat Tryz.prog 30 = some ⟨false, 1, 16, .nilIface⟩ := by kernel_rfl
theorem zv_30 : ofV (.nilIface) = .v .nilIface := by kernel_rfl
theorem nk_31 : nkT Tryz.prog 31 = some .nki := by kernel_rfl
theorem td_31 : tdat Tryz.prog 31 = some ⟨false, 1, 16, .nilIface⟩ := by kernel_rfl
theorem zv_31 : ofV (.nilIface) = .v .nilIface := by kernel_rfl
theorem nk_33 : nkT Tryz.prog 33 = some .nkf := by kernel_rfl
theorem td_34 : tdat Tryz.prog 34 = some ⟨false, 1, 8, .int .i64 0⟩ := by kernel_rfl
theorem zv_34 : ofV (.int .i64 0) = .v (.int .i64 0) := by kernel_rfl
theorem nk_36 : nkT Tryz.prog 36 = some .nkf := by kernel_rfl
theorem nk_37 : nkT Tryz.prog 37 = some .nkf := by kernel_rfl
theorem nk_38 : nkT Tryz.prog 38 = some .nkf := by kernel_rfl
theorem nk_39 : nkT Tryz.prog 39 = some .nkf := by kernel_rfl
theorem nk_40 : nkT Tryz.prog 40 = some .nkf := by kernel_rfl
theorem nk_41 : nkT Tryz.prog 41 = some .nkf := by kernel_rfl
theorem nk_42 : nkT Tryz.prog 42 = some .nkf := by kernel_rfl
theorem nk_43 : nkT Tryz.prog 43 = some .nkf := by kernel_rfl
theorem nk_44 : nkT Tryz.prog 44 = some .nkf := by kernel_rfl
theorem nk_45 : nkT Tryz.prog 45 = some .nkp := by kernel_rfl
theorem td_45 : tdat Tryz.prog 45 = some ⟨false, 1, 8, .pointer none⟩ := by kernel_rfl
theorem zv_45 : ofV (.pointer none) = .v (.pointer none) := by kernel_rfl
theorem nk_46 : nkT Tryz.prog 46 = some .nkf := by kernel_rfl
theorem nk_47 : nkT Tryz.prog 47 = some .nkf := by kernel_rfl
theorem td_48 : tdat Tryz.prog 48 = some ⟨false, 1, 24, .slice none 0 0⟩ := by kernel_rfl
theorem zv_48 : ofV (.slice none 0 0) = .sl .full [] := by kernel_rfl
theorem tel_48 : tel Tryz.prog 48 = some 55 := by kernel_rfl
theorem nk_50 : nkT Tryz.prog 50 = some .nkf := by kernel_rfl
theorem nk_51 : nkT Tryz.prog 51 = some .nkp := by kernel_rfl
theorem td_51 : tdat Tryz.prog 51 = some ⟨false, 1, 8, .pointer none⟩ := by kernel_rfl
theorem zv_51 : ofV (.pointer none) = .v (.pointer none) := by kernel_rfl
theorem td_52 : tdat Tryz.prog 52 = some ⟨true, 6, 64, .agg #[.slice none 0 0, .int .i64 0, .int .i64 0, .int .i64 0, .int .i64 0, .int .i64 0]⟩ := by kernel_rfl
theorem zv_52 : ofV (.agg #[.slice none 0 0, .int .i64 0, .int .i64 0, .int .i64 0, .int .i64 0, .int .i64 0]) = .ag [.sl .full [], .v (.int .i64 0), .v (.int .i64 0), .v (.int .i64 0), .v (.int .i64 0), .v (.int .i64 0)] := by kernel_rfl
theorem tf_52 : tflds Tryz.prog 52 = some [(0, 1, false), (1, 1, false), (2, 1, false), (3, 1, false), (4, 2, true)] := by kernel_rfl
theorem td_53 : tdat Tryz.prog 53 = some ⟨true, 6, 64, .agg #[.slice none 0 0, .int .i64 0, .int .i64 0, .int .i64 0, .int .i64 0, .int .i64 0]⟩ := by kernel_rfl
theorem zv_53 : ofV (.agg #[.slice none 0 0, .int .i64 0, .int .i64 0, .int .i64 0, .int .i64 0, .int .i64 0]) = .ag [.sl .full [], .v (.int .i64 0), .v (.int .i64 0), .v (.int .i64 0), .v (.int .i64 0), .v (.int .i64 0)] := by kernel_rfl
theorem tf_53 : tflds Tryz.prog 53 = some [(0, 1, false), (1, 1, false), (2, 1, false), (3, 1, false), (4, 2, true)] := by kernel_rfl
theorem td_54 : tdat Tryz.prog 54 = some ⟨true, 5, 48, .agg #[.int .u8 0, .string ⟨#[]⟩, .int .i32 0, .int .i64 0, .int .i64 0]⟩ := by kernel_rfl
theorem zv_54 : ofV (.agg #[.int .u8 0, .string ⟨#[]⟩, .int .i32 0, .int .i64 0, .int .i64 0]) = .ag [.v (.int .u8 0), .v (.string ⟨#[]⟩), .v (.int .i32 0), .v (.int .i64 0), .v (.int .i64 0)] := by kernel_rfl
theorem tf_54 : tflds Tryz.prog 54 = some [(0, 1, false), (1, 1, false), (2, 1, false), (3, 2, true)] := by kernel_rfl
theorem td_55 : tdat Tryz.prog 55 = some ⟨true, 5, 48, .agg #[.int .u8 0, .string ⟨#[]⟩, .int .i32 0, .int .i64 0, .int .i64 0]⟩ := by kernel_rfl
theorem zv_55 : ofV (.agg #[.int .u8 0, .string ⟨#[]⟩, .int .i32 0, .int .i64 0, .int .i64 0]) = .ag [.v (.int .u8 0), .v (.string ⟨#[]⟩), .v (.int .i32 0), .v (.int .i64 0), .v (.int .i64 0)] := by kernel_rfl
theorem tf_55 : tflds Tryz.prog 55 = some [(0, 1, false), (1, 1, false), (2, 1, false), (3, 2, true)] := by kernel_rfl
theorem nk_56 : nkT Tryz.prog 56 = some .nkf := by kernel_rfl
theorem nk_57 : nkT Tryz.prog 57 = some .nkf := by kernel_rfl
theorem nk_58 : nkT Tryz.prog 58 = some .nkf := by kernel_rfl
theorem nk_59 : nkT Tryz.prog 59 = some .nkp := by kernel_rfl
theorem td_59 : tdat Tryz.prog 59 = some ⟨false, 1, 8, .pointer none⟩ := by kernel_rfl
theorem zv_59 : ofV (.pointer none) = .v (.pointer none) := by kernel_rfl
theorem nk_60 : nkT Tryz.prog 60 = some .nkf := by kernel_rfl
theorem nk_61 : nkT Tryz.prog 61 = some .nkp := by kernel_rfl
theorem td_61 : tdat Tryz.prog 61 = some ⟨false, 1, 8, .pointer none⟩ := by kernel_rfl
theorem zv_61 : ofV (.pointer none) = .v (.pointer none) := by kernel_rfl
theorem td_62 : tdat Tryz.prog 62 = some ⟨true, 5, 56, .agg #[.int .i64 0, .int .i64 0, .string ⟨#[]⟩, .bool false, .nilIface]⟩ := by kernel_rfl
theorem zv_62 : ofV (.agg #[.int .i64 0, .int .i64 0, .string ⟨#[]⟩, .bool false, .nilIface]) = .ag [.v (.int .i64 0), .v (.int .i64 0), .v (.string ⟨#[]⟩), .v (.bool false), .v .nilIface] := by kernel_rfl
theorem tf_62 : tflds Tryz.prog 62 = some [(0, 2, true), (2, 1, false), (3, 1, false), (4, 1, false)] := by kernel_rfl
theorem td_63 : tdat Tryz.prog 63 = some ⟨true, 5, 56, .agg #[.int .i64 0, .int .i64 0, .string ⟨#[]⟩, .bool false, .nilIface]⟩ := by kernel_rfl
theorem zv_63 : ofV (.agg #[.int .i64 0, .int .i64 0, .string ⟨#[]⟩, .bool false, .nilIface]) = .ag [.v (.int .i64 0), .v (.int .i64 0), .v (.string ⟨#[]⟩), .v (.bool false), .v .nilIface] := by kernel_rfl
theorem tf_63 : tflds Tryz.prog 63 = some [(0, 2, true), (2, 1, false), (3, 1, false), (4, 1, false)] := by kernel_rfl
theorem td_64 : tdat Tryz.prog 64 = some ⟨false, 1, 24, .slice none 0 0⟩ := by kernel_rfl
theorem zv_64 : ofV (.slice none 0 0) = .sl .full [] := by kernel_rfl
theorem tel_64 : tel Tryz.prog 64 = some 106 := by kernel_rfl
theorem td_65 : tdat Tryz.prog 65 = some ⟨false, 1, 24, .slice none 0 0⟩ := by kernel_rfl
theorem zv_65 : ofV (.slice none 0 0) = .sl .full [] := by kernel_rfl
theorem tel_65 : tel Tryz.prog 65 = some 113 := by kernel_rfl
theorem td_66 : tdat Tryz.prog 66 = some ⟨true, 2, 48, .agg #[.slice none 0 0, .slice none 0 0]⟩ := by kernel_rfl
theorem zv_66 : ofV (.agg #[.slice none 0 0, .slice none 0 0]) = .ag [.sl .full [], .sl .full []] := by kernel_rfl
theorem tf_66 : tflds Tryz.prog 66 = some [(0, 1, false), (1, 1, false)] := by kernel_rfl
theorem td_67 : tdat Tryz.prog 67 = some ⟨true, 2, 48, .agg #[.slice none 0 0, .slice none 0 0]⟩ := by kernel_rfl
theorem zv_67 : ofV (.agg #[.slice none 0 0, .slice none 0 0]) = .ag [.sl .full [], .sl .full []] := by kernel_rfl
theorem tf_67 : tflds Tryz.prog 67 = some [(0, 1, false), (1, 1, false)] := by kernel_rfl
theorem nk_69 : nkT Tryz.prog 69 = some .nkf := by kernel_rfl
theorem nk_71 : nkT Tryz.prog 71 = some .nkf := by kernel_rfl
theorem nk_72 : nkT Tryz.prog 72 = some .nkf := by kernel_rfl
theorem td_73 : tdat Tryz.prog 73 = some ⟨false, 1, 24, .slice none 0 0⟩ := by kernel_rfl
theorem zv_73 : ofV (.slice none 0 0) = .sl .full [] := by kernel_rfl
theorem tel_73 : tel Tryz.prog 73 = some 80 := by kernel_rfl
theorem nk_75 : nkT Tryz.prog 75 = some .nkf := by kernel_rfl
theorem td_76 : tdat Tryz.prog 76 = some ⟨true, 1, 16, .agg #[.nilIface]⟩ := by kernel_rfl
theorem zv_76 : ofV (.agg #[.nilIface]) = .ag [.v .nilIface] := by kernel_rfl
theorem tf_76 : tflds Tryz.prog 76 = some [(0, 1, false)] := by kernel_rfl
theorem td_77 : tdat Tryz.prog 77 = some ⟨true, 1, 16, .agg #[.nilIface]⟩ := by kernel_rfl
theorem zv_77 : ofV (.agg #[.nilIface]) = .ag [.v .nilIface] := by kernel_rfl
theorem tf_77 : tflds Tryz.prog 77 = some [(0, 1, false)] := by kernel_rfl
theorem td_78 : tdat Tryz.prog 78 = some ⟨true, 3, 40, .agg #[.slice none 0 0, .int .i64 0, .int .i64 0]⟩ := by kernel_rfl
theorem zv_78 : ofV (.agg #[.slice none 0 0, .int .i64 0, .int .i64 0]) = .ag [.sl .full [], .v (.int .i64 0), .v (.int .i64 0)] := by kernel_rfl
theorem tf_78 : tflds Tryz.prog 78 = some [(0, 1, false), (1, 1, false), (2, 1, false)] := by kernel_rfl
theorem td_79 : tdat Tryz.prog 79 = some ⟨true, 3, 40, .agg #[.slice none 0 0, .int .i64 0, .int .i64 0]⟩ := by kernel_rfl
theorem zv_79 : ofV (.agg #[.slice none 0 0, .int .i64 0, .int .i64 0]) = .ag [.sl .full [], .v (.int .i64 0), .v (.int .i64 0)] := by kernel_rfl
theorem tf_79 : tflds Tryz.prog 79 = some [(0, 1, false), (1, 1, false), (2, 1, false)] := by kernel_rfl
theorem td_80 : tdat Tryz.prog 80 = some ⟨true, 5, 48, .agg #[.int .u8 0, .string ⟨#[]⟩, .int .i32 0, .int .i64 0, .int .i64 0]⟩ := by kernel_rfl
theorem zv_80 : ofV (.agg #[.int .u8 0, .string ⟨#[]⟩, .int .i32 0, .int .i64 0, .int .i64 0]) = .ag [.v (.int .u8 0), .v (.string ⟨#[]⟩), .v (.int .i32 0), .v (.int .i64 0), .v (.int .i64 0)] := by kernel_rfl
theorem tf_80 : tflds Tryz.prog 80 = some [(0, 1, false), (1, 1, false), (2, 1, false), (3, 2, true)] := by kernel_rfl
theorem nk_81 : nkT Tryz.prog 81 = some .nkf := by kernel_rfl
theorem nk_82 : nkT Tryz.prog 82 = some .nkf := by kernel_rfl
theorem nk_83 : nkT Tryz.prog 83 = some .nkf := by kernel_rfl
theorem nk_84 : nkT Tryz.prog 84 = some .nkf := by kernel_rfl
theorem nk_85 : nkT Tryz.prog 85 = some .nkf := by kernel_rfl
theorem nk_87 : nkT Tryz.prog 87 = some .nkf := by kernel_rfl
theorem nk_88 : nkT Tryz.prog 88 = some .nkf := by kernel_rfl
theorem nk_89 : nkT Tryz.prog 89 = some .nki := by kernel_rfl
theorem td_89 : tdat Tryz.prog 89 = some ⟨false, 1, 16, .nilIface⟩ := by kernel_rfl
theorem zv_89 : ofV (.nilIface) = .v .nilIface := by kernel_rfl
theorem nk_90 : nkT Tryz.prog 90 = some .nki := by kernel_rfl
theorem td_90 : tdat Tryz.prog 90 = some ⟨false, 1, 16, .nilIface⟩ := by kernel_rfl
theorem zv_90 : ofV (.nilIface) = .v .nilIface := by kernel_rfl
theorem nk_91 : nkT Tryz.prog 91 = some .nkf := by kernel_rfl
theorem nk_92 : nkT Tryz.prog 92 = some .nkf := by kernel_rfl
theorem td_93 : tdat Tryz.prog 93 = some ⟨false, 1, 8, .pointer none⟩ := by kernel_rfl
theorem zv_93 : ofV (.pointer none) = .v (.pointer none) := by kernel_rfl
theorem td_94 : tdat Tryz.prog 94 = some ⟨false, 1, 8, .int .u64 0⟩ := by kernel_rfl
theorem zv_94 : ofV (.int .u64 0) = .v (.int .u64 0) := by kernel_rfl
theorem td_95 : tdat Tryz.prog 95 = some ⟨true, 3, 24, .agg #[.pointer none, .pointer none, .int .u64 0]⟩ := by kernel_rfl
theorem zv_95 : ofV (.agg #[.pointer none, .pointer none, .int .u64 0]) = .ag [.v (.pointer none), .v (.pointer none), .v (.int .u64 0)] := by kernel_rfl
theorem tf_95 : tflds Tryz.prog 95 = some [(0, 1, false), (1, 1, false), (2, 1, false)] := by kernel_rfl
theorem td_96 : tdat Tryz.prog 96 = some ⟨true, 3, 24, .agg #[.pointer none, .pointer none, .int .u64 0]⟩ := by kernel_rfl
theorem zv_96 : ofV (.agg #[.pointer none, .pointer none, .int .u64 0]) = .ag [.v (.pointer none), .v (.pointer none), .v (.int .u64 0)] := by kernel_rfl
theorem tf_96 : tflds Tryz.prog 96 = some [(0, 1, false), (1, 1, false), (2, 1, false)] := by kernel_rfl
theorem nk_97 : nkT Tryz.prog 97 = some .nkf := by kernel_rfl
theorem nk_98 : nkT Tryz.prog 98 = some .nkf := by kernel_rfl
theorem td_99 : tdat Tryz.prog 99 = some ⟨false, 1, 1, .int .u8 0⟩ := by kernel_rfl
theorem zv_99 : ofV (.int .u8 0) = .v (.int .u8 0) := by kernel_rfl
theorem nk_100 : nkT Tryz.prog 100 = some .nkf := by kernel_rfl
theorem nk_101 : nkT Tryz.prog 101 = some .nkf := by kernel_rfl
theorem nk_102 : nkT Tryz.prog 102 = some .nkf := by kernel_rfl
theorem nk_103 : nkT Tryz.prog 103 = some .nkf := by kernel_rfl
theorem nk_104 : nkT Tryz.prog 104 = some .nkf := by kernel_rfl
theorem td_105 : tdat Tryz.prog 105 = some ⟨true, 4, 56, .agg #[.string ⟨#[]⟩, .slice none 0 0, .int .i64 0, .int .i64 0]⟩ := by kernel_rfl
theorem zv_105 : ofV (.agg #[.string ⟨#[]⟩, .slice none 0 0, .int .i64 0, .int .i64 0]) = .ag [.v (.string ⟨#[]⟩), .sl .full [], .v (.int .i64 0), .v (.int .i64 0)] := by kernel_rfl
theorem tf_105 : tflds Tryz.prog 105 = some [(0, 1, false), (1, 1, false), (2, 2, true)] := by kernel_rfl
theorem td_106 : tdat Tryz.prog 106 = some ⟨true, 4, 56, .agg #[.string ⟨#[]⟩, .slice none 0 0, .int .i64 0, .int .i64 0]⟩ := by kernel_rfl
theorem zv_106 : ofV (.agg #[.string ⟨#[]⟩, .slice none 0 0, .int .i64 0, .int .i64 0]) = .ag [.v (.string ⟨#[]⟩), .sl .full [], .v (.int .i64 0), .v (.int .i64 0)] := by kernel_rfl
theorem tf_106 : tflds Tryz.prog 106 = some [(0, 1, false), (1, 1, false), (2, 2, true)] := by kernel_rfl
theorem nk_107 : nkT Tryz.prog 107 = some .nkf := by kernel_rfl
theorem td_108 : tdat Tryz.prog 108 = some ⟨false, 1, 24, .slice none 0 0⟩ := by kernel_rfl
theorem zv_108 : ofV (.slice none 0 0) = .sl .full [] := by kernel_rfl
theorem tel_108 : tel Tryz.prog 108 = some 149 := by kernel_rfl
theorem td_109 : tdat Tryz.prog 109 = some ⟨false, 1, 24, .slice none 0 0⟩ := by kernel_rfl
theorem zv_109 : ofV (.slice none 0 0) = .sl .full [] := by kernel_rfl
theorem tel_109 : tel Tryz.prog 109 = some 154 := by kernel_rfl
theorem td_110 : tdat Tryz.prog 110 = some ⟨true, 2, 48, .agg #[.slice none 0 0, .slice none 0 0]⟩ := by kernel_rfl
theorem zv_110 : ofV (.agg #[.slice none 0 0, .slice none 0 0]) = .ag [.sl .full [], .sl .full []] := by kernel_rfl
theorem tf_110 : tflds Tryz.prog 110 = some [(0, 1, false), (1, 1, false)] := by kernel_rfl
theorem td_111 : tdat Tryz.prog 111 = some ⟨true, 2, 48, .agg #[.slice none 0 0, .slice none 0 0]⟩ := by kernel_rfl
theorem zv_111 : ofV (.agg #[.slice none 0 0, .slice none 0 0]) = .ag [.sl .full [], .sl .full []] := by kernel_rfl
theorem tf_111 : tflds Tryz.prog 111 = some [(0, 1, false), (1, 1, false)] := by kernel_rfl
theorem td_112 : tdat Tryz.prog 112 = some ⟨true, 7, 128, .agg #[.string ⟨#[]⟩, .slice none 0 0, .slice none 0 0, .slice none 0 0, .slice none 0 0, .int .i64 0, .int .i64 0]⟩ := by kernel_rfl
theorem zv_112 : ofV (.agg #[.string ⟨#[]⟩, .slice none 0 0, .slice none 0 0, .slice none 0 0, .slice none 0 0, .int .i64 0, .int .i64 0]) = .ag [.v (.string ⟨#[]⟩), .sl .full [], .sl .full [], .sl .full [], .sl .full [], .v (.int .i64 0), .v (.int .i64 0)] := by kernel_rfl
theorem tf_112 : tflds Tryz.prog 112 = some [(0, 1, false), (1, 1, false), (2, 1, false), (3, 2, true), (5, 2, true)] := by kernel_rfl
theorem td_113 : tdat Tryz.prog 113 = some ⟨true, 7, 128, .agg #[.string ⟨#[]⟩, .slice none 0 0, .slice none 0 0, .slice none 0 0, .slice none 0 0, .int .i64 0, .int .i64 0]⟩ := by kernel_rfl
theorem zv_113 : ofV (.agg #[.string ⟨#[]⟩, .slice none 0 0, .slice none 0 0, .slice none 0 0, .slice none 0 0, .int .i64 0, .int .i64 0]) = .ag [.v (.string ⟨#[]⟩), .sl .full [], .sl .full [], .sl .full [], .sl .full [], .v (.int .i64 0), .v (.int .i64 0)] := by kernel_rfl
theorem tf_113 : tflds Tryz.prog 113 = some [(0, 1, false), (1, 1, false), (2, 1, false), (3, 2, true), (5, 2, true)] := by kernel_rfl
theorem nk_114 : nkT Tryz.prog 114 = some .nkf := by kernel_rfl
theorem nk_115 : nkT Tryz.prog 115 = some .nkf := by kernel_rfl
theorem nk_116 : nkT Tryz.prog 116 = some .nkf := by kernel_rfl
theorem nk_117 : nkT Tryz.prog 117 = some .nkp := by kernel_rfl
theorem td_117 : tdat Tryz.prog 117 = some ⟨false, 1, 8, .pointer none⟩ := by kernel_rfl
theorem zv_117 : ofV (.pointer none) = .v (.pointer none) := by kernel_rfl
theorem td_118 : tdat Tryz.prog 118 = some ⟨true, 5, 64, .agg #[.string ⟨#[]⟩, .int .i64 0, .int .i64 0, .int .i64 0, .slice none 0 0]⟩ := by kernel_rfl
theorem zv_118 : ofV (.agg #[.string ⟨#[]⟩, .int .i64 0, .int .i64 0, .int .i64 0, .slice none 0 0]) = .ag [.v (.string ⟨#[]⟩), .v (.int .i64 0), .v (.int .i64 0), .v (.int .i64 0), .sl .full []] := by kernel_rfl
theorem tf_118 : tflds Tryz.prog 118 = some [(0, 1, false), (1, 1, false), (2, 1, false), (3, 1, false), (4, 1, false)] := by kernel_rfl
theorem td_119 : tdat Tryz.prog 119 = some ⟨true, 5, 64, .agg #[.string ⟨#[]⟩, .int .i64 0, .int .i64 0, .int .i64 0, .slice none 0 0]⟩ := by kernel_rfl
theorem zv_119 : ofV (.agg #[.string ⟨#[]⟩, .int .i64 0, .int .i64 0, .int .i64 0, .slice none 0 0]) = .ag [.v (.string ⟨#[]⟩), .v (.int .i64 0), .v (.int .i64 0), .v (.int .i64 0), .sl .full []] := by kernel_rfl
theorem tf_119 : tflds Tryz.prog 119 = some [(0, 1, false), (1, 1, false), (2, 1, false), (3, 1, false), (4, 1, false)] := by kernel_rfl
theorem nk_120 : nkT Tryz.prog 120 = some .nkf := by kernel_rfl
theorem nk_121 : nkT Tryz.prog 121 = some .nkf := by kernel_rfl
theorem nk_122 : nkT Tryz.prog 122 = some .nkf := by kernel_rfl
theorem nk_123 : nkT Tryz.prog 123 = some .nkf := by kernel_rfl
theorem nk_124 : nkT Tryz.prog 124 = some .nkf := by kernel_rfl
theorem nk_125 : nkT Tryz.prog 125 = some .nkf := by kernel_rfl
theorem td_126 : tdat Tryz.prog 126 = some ⟨true, 1, 8, .agg #[.pointer none]⟩ := by kernel_rfl
theorem zv_126 : ofV (.agg #[.pointer none]) = .ag [.v (.pointer none)] := by kernel_rfl
theorem tf_126 : tflds Tryz.prog 126 = some [(0, 1, false)] := by kernel_rfl
theorem td_127 : tdat Tryz.prog 127 = some ⟨true, 1, 8, .agg #[.pointer none]⟩ := by kernel_rfl
theorem zv_127 : ofV (.agg #[.pointer none]) = .ag [.v (.pointer none)] := by kernel_rfl
theorem tf_127 : tflds Tryz.prog 127 = some [(0, 1, false)] := by kernel_rfl
theorem nk_128 : nkT Tryz.prog 128 = some .nkp := by kernel_rfl
theorem td_128 : tdat Tryz.prog 128 = some ⟨false, 1, 8, .pointer none⟩ := by kernel_rfl
theorem zv_128 : ofV (.pointer none) = .v (.pointer none) := by kernel_rfl
theorem nk_129 : nkT Tryz.prog 129 = some .nki := by kernel_rfl
theorem td_129 : tdat Tryz.prog 129 = some ⟨false, 1, 16, .nilIface⟩ := by kernel_rfl
theorem zv_129 : ofV (.nilIface) = .v .nilIface := by kernel_rfl
theorem nk_131 : nkT Tryz.prog 131 = some .nkf := by kernel_rfl
theorem nk_132 : nkT Tryz.prog 132 = some .nki := by kernel_rfl
theorem td_132 : tdat Tryz.prog 132 = some ⟨false, 1, 16, .nilIface⟩ := by kernel_rfl
theorem zv_132 : ofV (.nilIface) = .v .nilIface := by kernel_rfl
theorem nk_133 : nkT Tryz.prog 133 = some .nkf := by kernel_rfl
theorem nk_134 : nkT Tryz.prog 134 = some .nki := by kernel_rfl
theorem td_134 : tdat Tryz.prog 134 = some ⟨false, 1, 16, .nilIface⟩ := by kernel_rfl
theorem zv_134 : ofV (.nilIface) = .v .nilIface := by kernel_rfl
theorem td_135 : tdat Tryz.prog 135 = some ⟨false, 1, 24, .slice none 0 0⟩ := by kernel_rfl
theorem zv_135 : ofV (.slice none 0 0) = .sl .full [] := by kernel_rfl
theorem tel_135 : tel Tryz.prog 135 = some 31 := by kernel_rfl
theorem nk_136 : nkT Tryz.prog 136 = some .nkf := by kernel_rfl
theorem nk_137 : nkT Tryz.prog 137 = some .nkf := by kernel_rfl
theorem nk_138 : nkT Tryz.prog 138 = some .nkf := by kernel_rfl
theorem nk_139 : nkT Tryz.prog 139 = some .nki := by kernel_rfl
theorem td_139 : tdat Tryz.prog 139 = some ⟨false, 1, 16, .nilIface⟩ := by kernel_rfl
theorem zv_139 : ofV (.nilIface) = .v .nilIface := by kernel_rfl
theorem nk_141 : nkT Tryz.prog 141 = some .nkf := by kernel_rfl
theorem nk_142 : nkT Tryz.prog 142 = some .nkf := by kernel_rfl
theorem nk_143 : nkT Tryz.prog 143 = some .nkf := by kernel_rfl
theorem nk_144 : nkT Tryz.prog 144 = some .nkf := by kernel_rfl
theorem td_145 : tdat Tryz.prog 145 = some ⟨true, 2, 24, .agg #[.int .u8 0, .string ⟨#[]⟩]⟩ := by kernel_rfl
theorem zv_145 : ofV (.agg #[.int .u8 0, .string ⟨#[]⟩]) = .ag [.v (.int .u8 0), .v (.string ⟨#[]⟩)] := by kernel_rfl
theorem tf_145 : tflds Tryz.prog 145 = some [(0, 1, false), (1, 1, false)] := by kernel_rfl
theorem fl_145 : flat1 Tryz.prog 145 = some [.ski, .sks] := by kernel_rfl
theorem td_146 : tdat Tryz.prog 146 = some ⟨true, 2, 24, .agg #[.int .u8 0, .string ⟨#[]⟩]⟩ := by kernel_rfl
theorem zv_146 : ofV (.agg #[.int .u8 0, .string ⟨#[]⟩]) = .ag [.v (.int .u8 0), .v (.string ⟨#[]⟩)] := by kernel_rfl
theorem tf_146 : tflds Tryz.prog 146 = some [(0, 1, false), (1, 1, false)] := by kernel_rfl
theorem fl_146 : flat1 Tryz.prog 146 = some [.ski, .sks] := by kernel_rfl
theorem td_147 : tdat Tryz.prog 147 = some ⟨false, 1, 24, .slice none 0 0⟩ := by kernel_rfl
theorem zv_147 : ofV (.slice none 0 0) = .sl .full [] := by kernel_rfl
theorem tel_147 : tel Tryz.prog 147 = some 165 := by kernel_rfl
theorem td_148 : tdat Tryz.prog 148 = some ⟨true, 15, 176, .agg #[.string ⟨#[]⟩, .int .u8 0, .string ⟨#[]⟩, .slice none 0 0, .bool false, .int .u8 0, .int .u8 0, .int .i32 0, .string ⟨#[]⟩, .slice none 0 0, .slice none 0 0, .int .i64 0, .int .i64 0, .int .i64 0, .int .i64 0]⟩ := by kernel_rfl
theorem zv_148 : ofV (.agg #[.string ⟨#[]⟩, .int .u8 0, .string ⟨#[]⟩, .slice none 0 0, .bool false, .int .u8 0, .int .u8 0, .int .i32 0, .string ⟨#[]⟩, .slice none 0 0, .slice none 0 0, .int .i64 0, .int .i64 0, .int .i64 0, .int .i64 0]) = .ag [.v (.string ⟨#[]⟩), .v (.int .u8 0), .v (.string ⟨#[]⟩), .sl .full [], .v (.bool false), .v (.int .u8 0), .v (.int .u8 0), .v (.int .i32 0), .v (.string ⟨#[]⟩), .sl .full [], .sl .full [], .v (.int .i64 0), .v (.int .i64 0), .v (.int .i64 0), .v (.int .i64 0)] := by kernel_rfl
theorem tf_148 : tflds Tryz.prog 148 = some [(0, 1, false), (1, 2, true), (3, 1, false), (4, 1, false), (5, 8, true), (13, 2, true)] := by kernel_rfl
theorem td_149 : tdat Tryz.prog 149 = some ⟨true, 15, 176, .agg #[.string ⟨#[]⟩, .int .u8 0, .string ⟨#[]⟩, .slice none 0 0, .bool false, .int .u8 0, .int .u8 0, .int .i32 0, .string ⟨#[]⟩, .slice none 0 0, .slice none 0 0, .int .i64 0, .int .i64 0, .int .i64 0, .int .i64 0]⟩ := by kernel_rfl
theorem zv_149 : ofV (.agg #[.string ⟨#[]⟩, .int .u8 0, .string ⟨#[]⟩, .slice none 0 0, .bool false, .int .u8 0, .int .u8 0, .int .i32 0, .string ⟨#[]⟩, .slice none 0 0, .slice none 0 0, .int .i64 0, .int .i64 0, .int .i64 0, .int .i64 0]) = .ag [.v (.string ⟨#[]⟩), .v (.int .u8 0), .v (.string ⟨#[]⟩), .sl .full [], .v (.bool false), .v (.int .u8 0), .v (.int .u8 0), .v (.int .i32 0), .v (.string ⟨#[]⟩), .sl .full [], .sl .full [], .v (.int .i64 0), .v (.int .i64 0), .v (.int .i64 0), .v (.int .i64 0)] := by kernel_rfl
theorem tf_149 : tflds Tryz.prog 149 = some [(0, 1, false), (1, 2, true), (3, 1, false), (4, 1, false), (5, 8, true), (13, 2, true)] := by kernel_rfl
theorem nk_150 : nkT Tryz.prog 150 = some .nkf := by kernel_rfl
theorem nk_151 : nkT Tryz.prog 151 = some .nkf := by kernel_rfl
theorem td_152 : tdat Tryz.prog 152 = some ⟨false, 1, 24, .slice none 0 0⟩ := by kernel_rfl
theorem zv_152 : ofV (.slice none 0 0) = .sl .full [] := by kernel_rfl
theorem tel_152 : tel Tryz.prog 152 = some 157 := by kernel_rfl
theorem td_153 : tdat Tryz.prog 153 = some ⟨true, 16, 208, .agg #[.int .u8 0, .slice none 0 0, .string ⟨#[]⟩, .slice none 0 0, .bool false, .int .u8 0, .int .u8 0, .int .i32 0, .string ⟨#[]⟩, .slice none 0 0, .slice none 0 0, .int .i64 0, .int .i64 0, .slice none 0 0, .int .i64 0, .int .i64 0]⟩ := by kernel_rfl
theorem zv_153 : ofV (.agg #[.int .u8 0, .slice none 0 0, .string ⟨#[]⟩, .slice none 0 0, .bool false, .int .u8 0, .int .u8 0, .int .i32 0, .string ⟨#[]⟩, .slice none 0 0, .slice none 0 0, .int .i64 0, .int .i64 0, .slice none 0 0, .int .i64 0, .int .i64 0]) = .ag [.v (.int .u8 0), .sl .full [], .v (.string ⟨#[]⟩), .sl .full [], .v (.bool false), .v (.int .u8 0), .v (.int .u8 0), .v (.int .i32 0), .v (.string ⟨#[]⟩), .sl .full [], .sl .full [], .v (.int .i64 0), .v (.int .i64 0), .sl .full [], .v (.int .i64 0), .v (.int .i64 0)] := by kernel_rfl
theorem tf_153 : tflds Tryz.prog 153 = some [(0, 1, false), (1, 1, false), (2, 1, false), (3, 1, false), (4, 1, false), (5, 8, true), (13, 1, false), (14, 2, true)] := by kernel_rfl
theorem td_154 : tdat Tryz.prog 154 = some ⟨true, 16, 208, .agg #[.int .u8 0, .slice none 0 0, .string ⟨#[]⟩, .slice none 0 0, .bool false, .int .u8 0, .int .u8 0, .int .i32 0, .string ⟨#[]⟩, .slice none 0 0, .slice none 0 0, .int .i64 0, .int .i64 0, .slice none 0 0, .int .i64 0, .int .i64 0]⟩ := by kernel_rfl
theorem zv_154 : ofV (.agg #[.int .u8 0, .slice none 0 0, .string ⟨#[]⟩, .slice none 0 0, .bool false, .int .u8 0, .int .u8 0, .int .i32 0, .string ⟨#[]⟩, .slice none 0 0, .slice none 0 0, .int .i64 0, .int .i64 0, .slice none 0 0, .int .i64 0, .int .i64 0]) = .ag [.v (.int .u8 0), .sl .full [], .v (.string ⟨#[]⟩), .sl .full [], .v (.bool false), .v (.int .u8 0), .v (.int .u8 0), .v (.int .i32 0), .v (.string ⟨#[]⟩), .sl .full [], .sl .full [], .v (.int .i64 0), .v (.int .i64 0), .sl .full [], .v (.int .i64 0), .v (.int .i64 0)] := by kernel_rfl
theorem tf_154 : tflds Tryz.prog 154 = some [(0, 1, false), (1, 1, false), (2, 1, false), (3, 1, false), (4, 1, false), (5, 8, true), (13, 1, false), (14, 2, true)] := by kernel_rfl
theorem td_155 : tdat Tryz.prog 155 = some ⟨false, 1, 24, .slice none 0 0⟩ := by kernel_rfl
theorem zv_155 : ofV (.slice none 0 0) = .sl .full [] := by kernel_rfl
theorem tel_155 : tel Tryz.prog 155 = some 168 := by kernel_rfl
theorem td_156 : tdat Tryz.prog 156 = some ⟨true, 7, 128, .agg #[.string ⟨#[]⟩, .slice none 0 0, .slice none 0 0, .slice none 0 0, .slice none 0 0, .int .i64 0, .int .i64 0]⟩ := by kernel_rfl
theorem zv_156 : ofV (.agg #[.string ⟨#[]⟩, .slice none 0 0, .slice none 0 0, .slice none 0 0, .slice none 0 0, .int .i64 0, .int .i64 0]) = .ag [.v (.string ⟨#[]⟩), .sl .full [], .sl .full [], .sl .full [], .sl .full [], .v (.int .i64 0), .v (.int .i64 0)] := by kernel_rfl
theorem tf_156 : tflds Tryz.prog 156 = some [(0, 1, false), (1, 2, true), (3, 1, false), (4, 1, false), (5, 2, true)] := by kernel_rfl
theorem td_157 : tdat Tryz.prog 157 = some ⟨true, 7, 128, .agg #[.string ⟨#[]⟩, .slice none 0 0, .slice none 0 0, .slice none 0 0, .slice none 0 0, .int .i64 0, .int .i64 0]⟩ := by kernel_rfl
theorem zv_157 : ofV (.agg #[.string ⟨#[]⟩, .slice none 0 0, .slice none 0 0, .slice none 0 0, .slice none 0 0, .int .i64 0, .int .i64 0]) = .ag [.v (.string ⟨#[]⟩), .sl .full [], .sl .full [], .sl .full [], .sl .full [], .v (.int .i64 0), .v (.int .i64 0)] := by kernel_rfl
theorem tf_157 : tflds Tryz.prog 157 = some [(0, 1, false), (1, 2, true), (3, 1, false), (4, 1, false), (5, 2, true)] := by kernel_rfl
theorem nk_158 : nkT Tryz.prog 158 = some .nkf := by kernel_rfl
theorem nk_159 : nkT Tryz.prog 159 = some .nkf := by kernel_rfl
theorem nk_160 : nkT Tryz.prog 160 = some .nkf := by kernel_rfl
theorem nk_161 : nkT Tryz.prog 161 = some .nkf := by kernel_rfl
theorem nk_162 : nkT Tryz.prog 162 = some .nkf := by kernel_rfl
theorem nk_163 : nkT Tryz.prog 163 = some .nkf := by kernel_rfl
theorem td_164 : tdat Tryz.prog 164 = some ⟨true, 2, 32, .agg #[.string ⟨#[]⟩, .string ⟨#[]⟩]⟩ := by kernel_rfl
theorem zv_164 : ofV (.agg #[.string ⟨#[]⟩, .string ⟨#[]⟩]) = .ag [.v (.string ⟨#[]⟩), .v (.string ⟨#[]⟩)] := by kernel_rfl
theorem tf_164 : tflds Tryz.prog 164 = some [(0, 1, false), (1, 1, false)] := by kernel_rfl
theorem fl_164 : flat1 Tryz.prog 164 = some [.sks, .sks] := by kernel_rfl
theorem td_165 : tdat Tryz.prog 165 = some ⟨true, 2, 32, .agg #[.string ⟨#[]⟩, .string ⟨#[]⟩]⟩ := by kernel_rfl
theorem zv_165 : ofV (.agg #[.string ⟨#[]⟩, .string ⟨#[]⟩]) = .ag [.v (.string ⟨#[]⟩), .v (.string ⟨#[]⟩)] := by kernel_rfl
theorem tf_165 : tflds Tryz.prog 165 = some [(0, 1, false), (1, 1, false)] := by kernel_rfl
theorem fl_165 : flat1 Tryz.prog 165 = some [.sks, .sks] := by kernel_rfl
theorem nk_166 : nkT Tryz.prog 166 = some .nkf := by kernel_rfl
theorem td_167 : tdat Tryz.prog 167 = some ⟨true, 12, 128, .agg #[.int .u8 0, .int .u8 0, .int .i32 0, .string ⟨#[]⟩, .slice none 0 0, .slice none 0 0, .int .i64 0, .int .i64 0, .string ⟨#[]⟩, .bool false, .int .i64 0, .int .i64 0]⟩ := by kernel_rfl
theorem zv_167 : ofV (.agg #[.int .u8 0, .int .u8 0, .int .i32 0, .string ⟨#[]⟩, .slice none 0 0, .slice none 0 0, .int .i64 0, .int .i64 0, .string ⟨#[]⟩, .bool false, .int .i64 0, .int .i64 0]) = .ag [.v (.int .u8 0), .v (.int .u8 0), .v (.int .i32 0), .v (.string ⟨#[]⟩), .sl .full [], .sl .full [], .v (.int .i64 0), .v (.int .i64 0), .v (.string ⟨#[]⟩), .v (.bool false), .v (.int .i64 0), .v (.int .i64 0)] := by kernel_rfl
theorem tf_167 : tflds Tryz.prog 167 = some [(0, 8, true), (8, 1, false), (9, 1, false), (10, 2, true)] := by kernel_rfl
theorem td_168 : tdat Tryz.prog 168 = some ⟨true, 12, 128, .agg #[.int .u8 0, .int .u8 0, .int .i32 0, .string ⟨#[]⟩, .slice none 0 0, .slice none 0 0, .int .i64 0, .int .i64 0, .string ⟨#[]⟩, .bool false, .int .i64 0, .int .i64 0]⟩ := by kernel_rfl
theorem zv_168 : ofV (.agg #[.int .u8 0, .int .u8 0, .int .i32 0, .string ⟨#[]⟩, .slice none 0 0, .slice none 0 0, .int .i64 0, .int .i64 0, .string ⟨#[]⟩, .bool false, .int .i64 0, .int .i64 0]) = .ag [.v (.int .u8 0), .v (.int .u8 0), .v (.int .i32 0), .v (.string ⟨#[]⟩), .sl .full [], .sl .full [], .v (.int .i64 0), .v (.int .i64 0), .v (.string ⟨#[]⟩), .v (.bool false), .v (.int .i64 0), .v (.int .i64 0)] := by kernel_rfl
theorem tf_168 : tflds Tryz.prog 168 = some [(0, 8, true), (8, 1, false), (9, 1, false), (10, 2, true)] := by kernel_rfl
theorem nk_169 : nkT Tryz.prog 169 = some .nkf := by kernel_rfl
theorem td_170 : tdat Tryz.prog 170 = some ⟨true, 4, 64, .agg #[.string ⟨#[]⟩, .string ⟨#[]⟩, .string ⟨#[]⟩, .string ⟨#[]⟩]⟩ := by kernel_rfl
theorem zv_170 : ofV (.agg #[.string ⟨#[]⟩, .string ⟨#[]⟩, .string ⟨#[]⟩, .string ⟨#[]⟩]) = .ag [.v (.string ⟨#[]⟩), .v (.string ⟨#[]⟩), .v (.string ⟨#[]⟩), .v (.string ⟨#[]⟩)] := by kernel_rfl
theorem tf_170 : tflds Tryz.prog 170 = none := by kernel_rfl
theorem tel_170 : tel Tryz.prog 170 = none := by kernel_rfl
theorem ta_170 : tarr Tryz.prog 170 = some (4, 9) := by kernel_rfl
theorem nk_171 : nkT Tryz.prog 171 = some .nkf := by kernel_rfl
theorem td_172 : tdat Tryz.prog 172 = some ⟨true, 24, 264, .agg #[.int .u8 0, .int .u8 0, .int .i32 0, .string ⟨#[]⟩, .slice none 0 0, .slice none 0 0, .int .i64 0, .int .i64 0, .int .u8 0, .int .u8 0, .int .i32 0, .string ⟨#[]⟩, .slice none 0 0, .slice none 0 0, .int .i64 0, .int .i64 0, .int .u8 0, .int .u8 0, .int .i32 0, .string ⟨#[]⟩, .slice none 0 0, .slice none 0 0, .int .i64 0, .int .i64 0]⟩ := by kernel_rfl
theorem zv_172 : ofV (.agg #[.int .u8 0, .int .u8 0, .int .i32 0, .string ⟨#[]⟩, .slice none 0 0, .slice none 0 0, .int .i64 0, .int .i64 0, .int .u8 0, .int .u8 0, .int .i32 0, .string ⟨#[]⟩, .slice none 0 0, .slice none 0 0, .int .i64 0, .int .i64 0, .int .u8 0, .int .u8 0, .int .i32 0, .string ⟨#[]⟩, .slice none 0 0, .slice none 0 0, .int .i64 0, .int .i64 0]) = .ag [.v (.int .u8 0), .v (.int .u8 0), .v (.int .i32 0), .v (.string ⟨#[]⟩), .sl .full [], .sl .full [], .v (.int .i64 0), .v (.int .i64 0), .v (.int .u8 0), .v (.int .u8 0), .v (.int .i32 0), .v (.string ⟨#[]⟩), .sl .full [], .sl .full [], .v (.int .i64 0), .v (.int .i64 0), .v (.int .u8 0), .v (.int .u8 0), .v (.int .i32 0), .v (.string ⟨#[]⟩), .sl .full [], .sl .full [], .v (.int .i64 0), .v (.int .i64 0)] := by kernel_rfl
theorem tf_172 : tflds Tryz.prog 172 = none := by kernel_rfl
theorem tel_172 : tel Tryz.prog 172 = none := by kernel_rfl
theorem ta_172 : tarr Tryz.prog 172 = some (3, 29) := by kernel_rfl
theorem nk_173 : nkT Tryz.prog 173 = some .nkf := by kernel_rfl
theorem nk_174 : nkT Tryz.prog 174 = some .nkf := by kernel_rfl
theorem nk_175 : nkT Tryz.prog 175 = some .nkf := by kernel_rfl
theorem nk_176 : nkT Tryz.prog 176 = some .nkf := by kernel_rfl
theorem nk_177 : nkT Tryz.prog 177 = some .nkf := by kernel_rfl
theorem nk_178 : nkT Tryz.prog 178 = some .nkf := by kernel_rfl
theorem nk_179 : nkT Tryz.prog 179 = some .nkp := by kernel_rfl
theorem td_179 : tdat Tryz.prog 179 = some ⟨false, 1, 8, .pointer none⟩ := by kernel_rfl
theorem zv_179 : ofV (.pointer none) = .v (.pointer none) := by kernel_rfl
theorem nk_180 : nkT Tryz.prog 180 = some .nkf := by kernel_rfl
theorem td_181 : tdat Tryz.prog 181 = some ⟨true, 17, 272, .agg #[.string ⟨#[]⟩, .string ⟨#[]⟩, .string ⟨#[]⟩, .string ⟨#[]⟩, .string ⟨#[]⟩, .string ⟨#[]⟩, .string ⟨#[]⟩, .string ⟨#[]⟩, .string ⟨#[]⟩, .string ⟨#[]⟩, .string ⟨#[]⟩, .string ⟨#[]⟩, .string ⟨#[]⟩, .string ⟨#[]⟩, .string ⟨#[]⟩, .string ⟨#[]⟩, .string ⟨#[]⟩]⟩ := by kernel_rfl
theorem zv_181 : ofV (.agg #[.string ⟨#[]⟩, .string ⟨#[]⟩, .string ⟨#[]⟩, .string ⟨#[]⟩, .string ⟨#[]⟩, .string ⟨#[]⟩, .string ⟨#[]⟩, .string ⟨#[]⟩, .string ⟨#[]⟩, .string ⟨#[]⟩, .string ⟨#[]⟩, .string ⟨#[]⟩, .string ⟨#[]⟩, .string ⟨#[]⟩, .string ⟨#[]⟩, .string ⟨#[]⟩, .string ⟨#[]⟩]) = .ag [.v (.string ⟨#[]⟩), .v (.string ⟨#[]⟩), .v (.string ⟨#[]⟩), .v (.string ⟨#[]⟩), .v (.string ⟨#[]⟩), .v (.string ⟨#[]⟩), .v (.string ⟨#[]⟩), .v (.string ⟨#[]⟩), .v (.string ⟨#[]⟩), .v (.string ⟨#[]⟩), .v (.string ⟨#[]⟩), .v (.string ⟨#[]⟩), .v (.string ⟨#[]⟩), .v (.string ⟨#[]⟩), .v (.string ⟨#[]⟩), .v (.string ⟨#[]⟩), .v (.string ⟨#[]⟩)] := by kernel_rfl
theorem tf_181 : tflds Tryz.prog 181 = none := by kernel_rfl
theorem tel_181 : tel Tryz.prog 181 = none := by kernel_rfl
theorem ta_181 : tarr Tryz.prog 181 = some (17, 9) := by kernel_rfl
theorem nk_182 : nkT Tryz.prog 182 = some .nkf := by kernel_rfl
theorem nk_183 : nkT Tryz.prog 183 = some .nkf := by kernel_rfl
theorem nk_184 : nkT Tryz.prog 184 = some .nkf := by kernel_rfl
theorem nk_185 : nkT Tryz.prog 185 = some .nkf := by kernel_rfl
theorem nk_186 : nkT Tryz.prog 186 = some .nkf := by kernel_rfl
theorem nk_187 : nkT Tryz.prog 187 = some .nkf := by kernel_rfl
theorem nk_188 : nkT Tryz.prog 188 = some .nkf := by kernel_rfl
theorem td_189 : tdat Tryz.prog 189 = some ⟨false, 1, 8, .int .u64 0⟩ := by kernel_rfl
theorem zv_189 : ofV (.int .u64 0) = .v (.int .u64 0) := by kernel_rfl
theorem td_190 : tdat Tryz.prog 190 = some ⟨false, 1, 4, .int .u32 0⟩ := by kernel_rfl
theorem zv_190 : ofV (.int .u32 0) = .v (.int .u32 0) := by kernel_rfl
theorem nk_192 : nkT Tryz.prog 192 = some .nkf := by kernel_rfl
theorem td_193 : tdat Tryz.prog 193 = some ⟨true, 4, 40, .agg #[.pointer none, .pointer none, .pointer none, .string ⟨#[]⟩]⟩ := by kernel_rfl
theorem zv_193 : ofV (.agg #[.pointer none, .pointer none, .pointer none, .string ⟨#[]⟩]) = .ag [.v (.pointer none), .v (.pointer none), .v (.pointer none), .v (.string ⟨#[]⟩)] := by kernel_rfl
theorem tf_193 : tflds Tryz.prog 193 = some [(0, 1, false), (1, 1, false), (2, 1, false), (3, 1, false)] := by kernel_rfl
theorem td_194 : tdat Tryz.prog 194 = some ⟨true, 4, 40, .agg #[.pointer none, .pointer none, .pointer none, .string ⟨#[]⟩]⟩ := by kernel_rfl
theorem zv_194 : ofV (.agg #[.pointer none, .pointer none, .pointer none, .string ⟨#[]⟩]) = .ag [.v (.pointer none), .v (.pointer none), .v (.pointer none), .v (.string ⟨#[]⟩)] := by kernel_rfl
theorem tf_194 : tflds Tryz.prog 194 = some [(0, 1, false), (1, 1, false), (2, 1, false), (3, 1, false)] := by kernel_rfl
theorem td_195 : tdat Tryz.prog 195 = some ⟨true, 0, 0, .agg #[]⟩ := by kernel_rfl
theorem zv_195 : ofV (.agg #[]) = .ag [] := by kernel_rfl
theorem tf_195 : tflds Tryz.prog 195 = none := by kernel_rfl
theorem tel_195 : tel Tryz.prog 195 = none := by kernel_rfl
theorem ta_195 : tarr Tryz.prog 195 = some (0, 16) := by kernel_rfl
theorem td_196 : tdat Tryz.prog 196 = some ⟨true, 0, 0, .agg #[]⟩ := by kernel_rfl
theorem zv_196 : ofV (.agg #[]) = .ag [] := by kernel_rfl
theorem tf_196 : tflds Tryz.prog 196 = some [(0, 0, true)] := by kernel_rfl
theorem td_197 : tdat Tryz.prog 197 = some ⟨true, 0, 0, .agg #[]⟩ := by kernel_rfl
theorem zv_197 : ofV (.agg #[]) = .ag [] := by kernel_rfl
theorem tf_197 : tflds Tryz.prog 197 = some [(0, 0, true)] := by kernel_rfl
theorem nk_198 : nkT Tryz.prog 198 = some .nkf := by kernel_rfl
theorem nk_199 : nkT Tryz.prog 199 = some .nkf := by kernel_rfl
theorem td_200 : tdat Tryz.prog 200 = some ⟨false, 1, 1, .int .u8 0⟩ := by kernel_rfl
theorem zv_200 : ofV (.int .u8 0) = .v (.int .u8 0) := by kernel_rfl
theorem nk_201 : nkT Tryz.prog 201 = some .nkf := by kernel_rfl
theorem nk_202 : nkT Tryz.prog 202 = some .nkp := by kernel_rfl
theorem td_202 : tdat Tryz.prog 202 = some ⟨false, 1, 8, .pointer none⟩ := by kernel_rfl
theorem zv_202 : ofV (.pointer none) = .v (.pointer none) := by kernel_rfl
theorem td_203 : tdat Tryz.prog 203 = some ⟨false, 1, 4, .int .i32 0⟩ := by kernel_rfl
theorem zv_203 : ofV (.int .i32 0) = .v (.int .i32 0) := by kernel_rfl
theorem td_204 : tdat Tryz.prog 204 = some ⟨false, 1, 4, .int .i32 0⟩ := by kernel_rfl
theorem zv_204 : ofV (.int .i32 0) = .v (.int .i32 0) := by kernel_rfl
theorem td_205 : tdat Tryz.prog 205 = some ⟨true, 11, 48, .agg #[.int .u64 0, .int .u64 0, .int .u32 0, .int .u8 0, .int .u8 0, .int .u8 0, .int .u8 0, .nilFunc, .pointer none, .int .i32 0, .int .i32 0]⟩ := by kernel_rfl
theorem zv_205 : ofV (.agg #[.int .u64 0, .int .u64 0, .int .u32 0, .int .u8 0, .int .u8 0, .int .u8 0, .int .u8 0, .nilFunc, .pointer none, .int .i32 0, .int .i32 0]) = .ag [.v (.int .u64 0), .v (.int .u64 0), .v (.int .u32 0), .v (.int .u8 0), .v (.int .u8 0), .v (.int .u8 0), .v (.int .u8 0), .v .nilFunc, .v (.pointer none), .v (.int .i32 0), .v (.int .i32 0)] := by kernel_rfl
theorem tf_205 : tflds Tryz.prog 205 = some [(0, 1, false), (1, 1, false), (2, 1, false), (3, 1, false), (4, 1, false), (5, 1, false), (6, 1, false), (7, 1, false), (8, 1, false), (9, 1, false), (10, 1, false)] := by kernel_rfl
theorem td_206 : tdat Tryz.prog 206 = some ⟨true, 11, 48, .agg #[.int .u64 0, .int .u64 0, .int .u32 0, .int .u8 0, .int .u8 0, .int .u8 0, .int .u8 0, .nilFunc, .pointer none, .int .i32 0, .int .i32 0]⟩ := by kernel_rfl
theorem zv_206 : ofV (.agg #[.int .u64 0, .int .u64 0, .int .u32 0, .int .u8 0, .int .u8 0, .int .u8 0, .int .u8 0, .nilFunc, .pointer none, .int .i32 0, .int .i32 0]) = .ag [.v (.int .u64 0), .v (.int .u64 0), .v (.int .u32 0), .v (.int .u8 0), .v (.int .u8 0), .v (.int .u8 0), .v (.int .u8 0), .v .nilFunc, .v (.pointer none), .v (.int .i32 0), .v (.int .i32 0)] := by kernel_rfl
theorem tf_206 : tflds Tryz.prog 206 = some [(0, 1, false), (1, 1, false), (2, 1, false), (3, 1, false), (4, 1, false), (5, 1, false), (6, 1, false), (7, 1, false), (8, 1, false), (9, 1, false), (10, 1, false)] := by kernel_rfl
theorem nk_207 : nkT Tryz.prog 207 = some .nkf := by kernel_rfl
theorem nk_208 : nkT Tryz.prog 208 = some .nkf := by kernel_rfl
theorem td_209 : tdat Tryz.prog 209 = some ⟨true, 2, 24, .agg #[.string ⟨#[]⟩, .int .u8 0]⟩ := by kernel_rfl
theorem zv_209 : ofV (.agg #[.string ⟨#[]⟩, .int .u8 0]) = .ag [.v (.string ⟨#[]⟩), .v (.int .u8 0)] := by kernel_rfl
theorem tf_209 : tflds Tryz.prog 209 = some [(0, 1, false), (1, 1, false)] := by kernel_rfl
theorem td_210 : tdat Tryz.prog 210 = some ⟨true, 2, 24, .agg #[.string ⟨#[]⟩, .int .u8 0]⟩ := by kernel_rfl
theorem zv_210 : ofV (.agg #[.string ⟨#[]⟩, .int .u8 0]) = .ag [.v (.string ⟨#[]⟩), .v (.int .u8 0)] := by kernel_rfl
theorem tf_210 : tflds Tryz.prog 210 = some [(0, 1, false), (1, 1, false)] := by kernel_rfl
theorem nk_211 : nkT Tryz.prog 211 = some .nkp := by kernel_rfl
theorem td_211 : tdat Tryz.prog 211 = some ⟨false, 1, 8, .pointer none⟩ := by kernel_rfl
theorem zv_211 : ofV (.pointer none) = .v (.pointer none) := by kernel_rfl
theorem nk_212 : nkT Tryz.prog 212 = some .nkf := by kernel_rfl
theorem td_213 : tdat Tryz.prog 213 = some ⟨false, 1, 2, .int .u16 0⟩ := by kernel_rfl
theorem zv_213 : ofV (.int .u16 0) = .v (.int .u16 0) := by kernel_rfl
theorem td_214 : tdat Tryz.prog 214 = some ⟨true, 5, 16, .agg #[.int .i32 0, .int .u16 0, .int .u16 0, .int .u32 0, .int .u32 0]⟩ := by kernel_rfl
theorem zv_214 : ofV (.agg #[.int .i32 0, .int .u16 0, .int .u16 0, .int .u32 0, .int .u32 0]) = .ag [.v (.int .i32 0), .v (.int .u16 0), .v (.int .u16 0), .v (.int .u32 0), .v (.int .u32 0)] := by kernel_rfl
theorem tf_214 : tflds Tryz.prog 214 = some [(0, 1, false), (1, 1, false), (2, 1, false), (3, 1, false), (4, 1, false)] := by kernel_rfl
theorem td_215 : tdat Tryz.prog 215 = some ⟨true, 5, 16, .agg #[.int .i32 0, .int .u16 0, .int .u16 0, .int .u32 0, .int .u32 0]⟩ := by kernel_rfl
theorem zv_215 : ofV (.agg #[.int .i32 0, .int .u16 0, .int .u16 0, .int .u32 0, .int .u32 0]) = .ag [.v (.int .i32 0), .v (.int .u16 0), .v (.int .u16 0), .v (.int .u32 0), .v (.int .u32 0)] := by kernel_rfl
theorem tf_215 : tflds Tryz.prog 215 = some [(0, 1, false), (1, 1, false), (2, 1, false), (3, 1, false), (4, 1, false)] := by kernel_rfl
theorem td_216 : tdat Tryz.prog 216 = some ⟨false, 1, 24, .slice none 0 0⟩ := by kernel_rfl
theorem zv_216 : ofV (.slice none 0 0) = .sl .full [] := by kernel_rfl
theorem tel_216 : tel Tryz.prog 216 = some 219 := by kernel_rfl
theorem td_217 : tdat Tryz.prog 217 = some ⟨false, 1, 4, .int .i32 0⟩ := by kernel_rfl
theorem zv_217 : ofV (.int .i32 0) = .v (.int .i32 0) := by kernel_rfl
theorem td_218 : tdat Tryz.prog 218 = some ⟨true, 4, 16, .agg #[.int .i32 0, .int .i32 0, .int .i32 0, .int .i32 0]⟩ := by kernel_rfl
theorem zv_218 : ofV (.agg #[.int .i32 0, .int .i32 0, .int .i32 0, .int .i32 0]) = .ag [.v (.int .i32 0), .v (.int .i32 0), .v (.int .i32 0), .v (.int .i32 0)] := by kernel_rfl
theorem tf_218 : tflds Tryz.prog 218 = some [(0, 1, false), (1, 1, false), (2, 1, false), (3, 1, false)] := by kernel_rfl
theorem td_219 : tdat Tryz.prog 219 = some ⟨true, 4, 16, .agg #[.int .i32 0, .int .i32 0, .int .i32 0, .int .i32 0]⟩ := by kernel_rfl
theorem zv_219 : ofV (.agg #[.int .i32 0, .int .i32 0, .int .i32 0, .int .i32 0]) = .ag [.v (.int .i32 0), .v (.int .i32 0), .v (.int .i32 0), .v (.int .i32 0)] := by kernel_rfl
theorem tf_219 : tflds Tryz.prog 219 = some [(0, 1, false), (1, 1, false), (2, 1, false), (3, 1, false)] := by kernel_rfl
theorem nk_220 : nkT Tryz.prog 220 = some .nkp := by kernel_rfl
theorem td_220 : tdat Tryz.prog 220 = some ⟨false, 1, 8, .pointer none⟩ := by kernel_rfl
theorem zv_220 : ofV (.pointer none) = .v (.pointer none) := by kernel_rfl
set_option linter.defProp false
def tfA0 := And.intro @nk_1 (And.intro @td_2 (And.intro @zv_2 (And.intro @Tryz.underlying2 (And.intro @td_3 (And.intro @zv_3 (And.intro @Tryz.underlying3 (And.intro @td_4 (And.intro @zv_4 (And.intro @Tryz.underlying4 (And.intro @td_5 (And.intro @zv_5 (And.intro @Tryz.underlying5 (And.intro @td_6 (And.intro @zv_6 (And.intro @Tryz.underlying6 (And.intro @td_7 (And.intro @zv_7 (And.intro @tf_7 (And.intro @td_8 (And.intro @zv_8 (And.intro @tf_8 (And.intro @td_9 (And.intro @zv_9 (And.intro @Tryz.underlying9 (And.intro @td_10 (And.intro @zv_10 (And.intro @Tryz.underlying10 (And.intro @td_11 @zv_11))))))))))))))))))))))))))))
def tfA1 := And.intro @Tryz.underlying11 (And.intro @td_12 (And.intro @zv_12 (And.intro @Tryz.underlying12 (And.intro @td_13 (And.intro @zv_13 (And.intro @tf_13 (And.intro @td_14 (And.intro @zv_14 (And.intro @tf_14 (And.intro @nk_15 (And.intro @td_15 (And.intro @zv_15 (And.intro @Tryz.underlying15 (And.intro @nk_16 (And.intro @td_16 (And.intro @zv_16 (And.intro @Tryz.underlying16 (And.intro @nk_17 (And.intro @td_17 (And.intro @zv_17 (And.intro @Tryz.underlying17 (And.intro @td_18 (And.intro @zv_18 (And.intro @tf_18 (And.intro @td_19 (And.intro @zv_19 (And.intro @tf_19 (And.intro @nk_20 @td_20))))))))))))))))))))))))))))
def tfA2 := And.intro @zv_20 (And.intro @td_21 (And.intro @zv_21 (And.intro @Tryz.underlying21 (And.intro @td_22 (And.intro @zv_22 (And.intro @tel_22 (And.intro @Tryz.underlying22 (And.intro @nk_23 (And.intro @td_24 (And.intro @zv_24 (And.intro @tel_24 (And.intro @Tryz.underlying24 (And.intro @td_25 (And.intro @zv_25 (And.intro @tel_25 (And.intro @Tryz.underlying25 (And.intro @td_26 (And.intro @zv_26 (And.intro @tf_26 (And.intro @fl_26 (And.intro @td_27 (And.intro @zv_27 (And.intro @tf_27 (And.intro @fl_27 (And.intro @td_28 (And.intro @zv_28 (And.intro @tf_28 (And.intro @td_29 @zv_29))))))))))))))))))))))))))))
def tfA3 := And.intro @tf_29 (And.intro @nk_30 (And.intro @td_30 (And.intro @zv_30 (And.intro @nk_31 (And.intro @td_31 (And.intro @zv_31 (And.intro @nk_33 (And.intro @td_34 (And.intro @zv_34 (And.intro @Tryz.underlying34 (And.intro @nk_36 (And.intro @nk_37 (And.intro @nk_38 (And.intro @nk_39 (And.intro @nk_40 (And.intro @nk_41 (And.intro @nk_42 (And.intro @nk_43 (And.intro @nk_44 (And.intro @nk_45 (And.intro @td_45 (And.intro @zv_45 (And.intro @Tryz.underlying45 (And.intro @nk_46 (And.intro @nk_47 (And.intro @td_48 (And.intro @zv_48 (And.intro @tel_48 @Tryz.underlying48))))))))))))))))))))))))))))
def tfA4 := And.intro @nk_50 (And.intro @nk_51 (And.intro @td_51 (And.intro @zv_51 (And.intro @Tryz.underlying51 (And.intro @td_52 (And.intro @zv_52 (And.intro @tf_52 (And.intro @td_53 (And.intro @zv_53 (And.intro @tf_53 (And.intro @td_54 (And.intro @zv_54 (And.intro @tf_54 (And.intro @td_55 (And.intro @zv_55 (And.intro @tf_55 (And.intro @nk_56 (And.intro @nk_57 (And.intro @nk_58 (And.intro @nk_59 (And.intro @td_59 (And.intro @zv_59 (And.intro @Tryz.underlying59 (And.intro @nk_60 (And.intro @nk_61 (And.intro @td_61 (And.intro @zv_61 (And.intro @Tryz.underlying61 @td_62))))))))))))))))))))))))))))
def tfA5 := And.intro @zv_62 (And.intro @tf_62 (And.intro @td_63 (And.intro @zv_63 (And.intro @tf_63 (And.intro @td_64 (And.intro @zv_64 (And.intro @tel_64 (And.intro @Tryz.underlying64 (And.intro @td_65 (And.intro @zv_65 (And.intro @tel_65 (And.intro @Tryz.underlying65 (And.intro @td_66 (And.intro @zv_66 (And.intro @tf_66 (And.intro @td_67 (And.intro @zv_67 (And.intro @tf_67 (And.intro @nk_69 (And.intro @nk_71 (And.intro @nk_72 (And.intro @td_73 (And.intro @zv_73 (And.intro @tel_73 (And.intro @Tryz.underlying73 (And.intro @nk_75 (And.intro @td_76 (And.intro @zv_76 @tf_76))))))))))))))))))))))))))))
def tfA6 := And.intro @td_77 (And.intro @zv_77 (And.intro @tf_77 (And.intro @td_78 (And.intro @zv_78 (And.intro @tf_78 (And.intro @td_79 (And.intro @zv_79 (And.intro @tf_79 (And.intro @td_80 (And.intro @zv_80 (And.intro @tf_80 (And.intro @nk_81 (And.intro @nk_82 (And.intro @nk_83 (And.intro @nk_84 (And.intro @nk_85 (And.intro @nk_87 (And.intro @nk_88 (And.intro @nk_89 (And.intro @td_89 (And.intro @zv_89 (And.intro @nk_90 (And.intro @td_90 (And.intro @zv_90 (And.intro @nk_91 (And.intro @nk_92 (And.intro @td_93 (And.intro @zv_93 @td_94))))))))))))))))))))))))))))
def tfA7 := And.intro @zv_94 (And.intro @Tryz.underlying94 (And.intro @td_95 (And.intro @zv_95 (And.intro @tf_95 (And.intro @td_96 (And.intro @zv_96 (And.intro @tf_96 (And.intro @nk_97 (And.intro @nk_98 (And.intro @td_99 (And.intro @zv_99 (And.intro @Tryz.underlying99 (And.intro @nk_100 (And.intro @nk_101 (And.intro @nk_102 (And.intro @nk_103 (And.intro @nk_104 (And.intro @td_105 (And.intro @zv_105 (And.intro @tf_105 (And.intro @td_106 (And.intro @zv_106 (And.intro @tf_106 (And.intro @nk_107 (And.intro @td_108 (And.intro @zv_108 (And.intro @tel_108 (And.intro @Tryz.underlying108 @td_109))))))))))))))))))))))))))))
def tfA8 := And.intro @zv_109 (And.intro @tel_109 (And.intro @Tryz.underlying109 (And.intro @td_110 (And.intro @zv_110 (And.intro @tf_110 (And.intro @td_111 (And.intro @zv_111 (And.intro @tf_111 (And.intro @td_112 (And.intro @zv_112 (And.intro @tf_112 (And.intro @td_113 (And.intro @zv_113 (And.intro @tf_113 (And.intro @nk_114 (And.intro @nk_115 (And.intro @nk_116 (And.intro @nk_117 (And.intro @td_117 (And.intro @zv_117 (And.intro @Tryz.underlying117 (And.intro @td_118 (And.intro @zv_118 (And.intro @tf_118 (And.intro @td_119 (And.intro @zv_119 (And.intro @tf_119 (And.intro @nk_120 @nk_121))))))))))))))))))))))))))))
def tfA9 := And.intro @nk_122 (And.intro @nk_123 (And.intro @nk_124 (And.intro @nk_125 (And.intro @td_126 (And.intro @zv_126 (And.intro @tf_126 (And.intro @td_127 (And.intro @zv_127 (And.intro @tf_127 (And.intro @nk_128 (And.intro @td_128 (And.intro @zv_128 (And.intro @Tryz.underlying128 (And.intro @nk_129 (And.intro @td_129 (And.intro @zv_129 (And.intro @nk_131 (And.intro @nk_132 (And.intro @td_132 (And.intro @zv_132 (And.intro @nk_133 (And.intro @nk_134 (And.intro @td_134 (And.intro @zv_134 (And.intro @td_135 (And.intro @zv_135 (And.intro @tel_135 (And.intro @Tryz.underlying135 @nk_136))))))))))))))))))))))))))))
def tfA10 := And.intro @nk_137 (And.intro @nk_138 (And.intro @nk_139 (And.intro @td_139 (And.intro @zv_139 (And.intro @nk_141 (And.intro @nk_142 (And.intro @nk_143 (And.intro @nk_144 (And.intro @td_145 (And.intro @zv_145 (And.intro @tf_145 (And.intro @fl_145 (And.intro @td_146 (And.intro @zv_146 (And.intro @tf_146 (And.intro @fl_146 (And.intro @td_147 (And.intro @zv_147 (And.intro @tel_147 (And.intro @Tryz.underlying147 (And.intro @td_148 (And.intro @zv_148 (And.intro @tf_148 (And.intro @td_149 (And.intro @zv_149 (And.intro @tf_149 (And.intro @nk_150 (And.intro @nk_151 @td_152))))))))))))))))))))))))))))
def tfA11 := And.intro @zv_152 (And.intro @tel_152 (And.intro @Tryz.underlying152 (And.intro @td_153 (And.intro @zv_153 (And.intro @tf_153 (And.intro @td_154 (And.intro @zv_154 (And.intro @tf_154 (And.intro @td_155 (And.intro @zv_155 (And.intro @tel_155 (And.intro @Tryz.underlying155 (And.intro @td_156 (And.intro @zv_156 (And.intro @tf_156 (And.intro @td_157 (And.intro @zv_157 (And.intro @tf_157 (And.intro @nk_158 (And.intro @nk_159 (And.intro @nk_160 (And.intro @nk_161 (And.intro @nk_162 (And.intro @nk_163 (And.intro @td_164 (And.intro @zv_164 (And.intro @tf_164 (And.intro @fl_164 @td_165))))))))))))))))))))))))))))
def tfA12 := And.intro @zv_165 (And.intro @tf_165 (And.intro @fl_165 (And.intro @nk_166 (And.intro @td_167 (And.intro @zv_167 (And.intro @tf_167 (And.intro @td_168 (And.intro @zv_168 (And.intro @tf_168 (And.intro @nk_169 (And.intro @td_170 (And.intro @zv_170 (And.intro @tf_170 (And.intro @tel_170 (And.intro @ta_170 (And.intro @Tryz.underlying170 (And.intro @nk_171 (And.intro @td_172 (And.intro @zv_172 (And.intro @tf_172 (And.intro @tel_172 (And.intro @ta_172 (And.intro @Tryz.underlying172 (And.intro @nk_173 (And.intro @nk_174 (And.intro @nk_175 (And.intro @nk_176 (And.intro @nk_177 @nk_178))))))))))))))))))))))))))))
def tfA13 := And.intro @nk_179 (And.intro @td_179 (And.intro @zv_179 (And.intro @Tryz.underlying179 (And.intro @nk_180 (And.intro @td_181 (And.intro @zv_181 (And.intro @tf_181 (And.intro @tel_181 (And.intro @ta_181 (And.intro @Tryz.underlying181 (And.intro @nk_182 (And.intro @nk_183 (And.intro @nk_184 (And.intro @nk_185 (And.intro @nk_186 (And.intro @nk_187 (And.intro @nk_188 (And.intro @td_189 (And.intro @zv_189 (And.intro @Tryz.underlying189 (And.intro @td_190 (And.intro @zv_190 (And.intro @Tryz.underlying190 (And.intro @nk_192 (And.intro @td_193 (And.intro @zv_193 (And.intro @tf_193 (And.intro @td_194 @zv_194))))))))))))))))))))))))))))
def tfA14 := And.intro @tf_194 (And.intro @td_195 (And.intro @zv_195 (And.intro @tf_195 (And.intro @tel_195 (And.intro @ta_195 (And.intro @Tryz.underlying195 (And.intro @td_196 (And.intro @zv_196 (And.intro @tf_196 (And.intro @td_197 (And.intro @zv_197 (And.intro @tf_197 (And.intro @nk_198 (And.intro @nk_199 (And.intro @td_200 (And.intro @zv_200 (And.intro @Tryz.underlying200 (And.intro @nk_201 (And.intro @nk_202 (And.intro @td_202 (And.intro @zv_202 (And.intro @Tryz.underlying202 (And.intro @td_203 (And.intro @zv_203 (And.intro @Tryz.underlying203 (And.intro @td_204 (And.intro @zv_204 (And.intro @Tryz.underlying204 @td_205))))))))))))))))))))))))))))
def tfA15 := And.intro @zv_205 (And.intro @tf_205 (And.intro @td_206 (And.intro @zv_206 (And.intro @tf_206 (And.intro @nk_207 (And.intro @nk_208 (And.intro @td_209 (And.intro @zv_209 (And.intro @tf_209 (And.intro @td_210 (And.intro @zv_210 (And.intro @tf_210 (And.intro @nk_211 (And.intro @td_211 (And.intro @zv_211 (And.intro @Tryz.underlying211 (And.intro @nk_212 (And.intro @td_213 (And.intro @zv_213 (And.intro @Tryz.underlying213 (And.intro @td_214 (And.intro @zv_214 (And.intro @tf_214 (And.intro @td_215 (And.intro @zv_215 (And.intro @tf_215 (And.intro @td_216 (And.intro @zv_216 @tel_216))))))))))))))))))))))))))))
def tfA16 := And.intro @Tryz.underlying216 (And.intro @td_217 (And.intro @zv_217 (And.intro @Tryz.underlying217 (And.intro @td_218 (And.intro @zv_218 (And.intro @tf_218 (And.intro @td_219 (And.intro @zv_219 (And.intro @tf_219 (And.intro @nk_220 (And.intro @td_220 (And.intro @zv_220 @Tryz.underlying220))))))))))))
def tfA := And.intro @tfA0 (And.intro @tfA1 (And.intro @tfA2 (And.intro @tfA3 (And.intro @tfA4 (And.intro @tfA5 (And.intro @tfA6 (And.intro @tfA7 (And.intro @tfA8 (And.intro @tfA9 (And.intro @tfA10 (And.intro @tfA11 (And.intro @tfA12 (And.intro @tfA13 (And.intro @tfA14 (And.intro @tfA15 @tfA16)))))))))))))))
end Go.Proofs.YtohgdopfjkjppaaGreatDoor
