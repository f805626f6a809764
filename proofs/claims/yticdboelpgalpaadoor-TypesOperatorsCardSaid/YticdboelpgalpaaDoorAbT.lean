/-
  Closed facts on the types of this seat.
-/
import Derived.Test.YticdboelpgalpaaDoorRows
import Derived.Test.YticdboelpgalpaaDoorAbFn
import Derived.KernelRfl
namespace Go.Proofs.YticdboelpgalpaaDoor
open Go Go.RowKit
theorem ok_mix : Tryd.prog.follows .mixedOrders = true := by kernel_rfl
theorem nk_1 : nkT Tryd.prog 1 = some .nkf := by kernel_rfl
theorem td_2 : tdat Tryd.prog 2 = some ⟨false, 1, 8, .int .i64 0⟩ := by kernel_rfl
theorem zv_2 : ofV (.int .i64 0) = .v (.int .i64 0) := by kernel_rfl
theorem td_3 : tdat Tryd.prog 3 = some ⟨false, 1, 8, .int .i64 0⟩ := by kernel_rfl
theorem zv_3 : ofV (.int .i64 0) = .v (.int .i64 0) := by kernel_rfl
theorem td_4 : tdat Tryd.prog 4 = some ⟨false, 1, 1, .bool false⟩ := by kernel_rfl
theorem zv_4 : ofV (.bool false) = .v (.bool false) := by kernel_rfl
theorem td_5 : tdat Tryd.prog 5 = some ⟨false, 1, 1, .int .u8 0⟩ := by kernel_rfl
theorem zv_5 : ofV (.int .u8 0) = .v (.int .u8 0) := by kernel_rfl
theorem td_6 : tdat Tryd.prog 6 = some ⟨false, 1, 1, .int .u8 0⟩ := by kernel_rfl
theorem zv_6 : ofV (.int .u8 0) = .v (.int .u8 0) := by kernel_rfl
theorem td_7 : tdat Tryd.prog 7 = some ⟨true, 4, 24, .agg #[.int .i64 0, .int .i64 0, .bool false, .int .u8 0]⟩ := by kernel_rfl
theorem zv_7 : ofV (.agg #[.int .i64 0, .int .i64 0, .bool false, .int .u8 0]) = .ag [.v (.int .i64 0), .v (.int .i64 0), .v (.bool false), .v (.int .u8 0)] := by kernel_rfl
theorem tf_7 : tflds Tryd.prog 7 = some [(0, 1, false), (1, 1, false), (2, 1, false), (3, 1, false)] := by kernel_rfl
theorem td_8 : tdat Tryd.prog 8 = some ⟨true, 4, 24, .agg #[.int .i64 0, .int .i64 0, .bool false, .int .u8 0]⟩ := by kernel_rfl
theorem zv_8 : ofV (.agg #[.int .i64 0, .int .i64 0, .bool false, .int .u8 0]) = .ag [.v (.int .i64 0), .v (.int .i64 0), .v (.bool false), .v (.int .u8 0)] := by kernel_rfl
theorem tf_8 : tflds Tryd.prog 8 = some [(0, 1, false), (1, 1, false), (2, 1, false), (3, 1, false)] := by kernel_rfl
theorem td_9 : tdat Tryd.prog 9 = some ⟨false, 1, 16, .string ⟨#[]⟩⟩ := by kernel_rfl
theorem zv_9 : ofV (.string ⟨#[]⟩) = .v (.string ⟨#[]⟩) := by kernel_rfl
theorem td_10 : tdat Tryd.prog 10 = some ⟨false, 1, 16, .string ⟨#[]⟩⟩ := by kernel_rfl
theorem zv_10 : ofV (.string ⟨#[]⟩) = .v (.string ⟨#[]⟩) := by kernel_rfl
theorem td_11 : tdat Tryd.prog 11 = some ⟨false, 1, 16, .string ⟨#[]⟩⟩ := by kernel_rfl
theorem zv_11 : ofV (.string ⟨#[]⟩) = .v (.string ⟨#[]⟩) := by kernel_rfl
theorem td_12 : tdat Tryd.prog 12 = some ⟨false, 1, 8, .int .u64 0⟩ := by kernel_rfl
theorem zv_12 : ofV (.int .u64 0) = .v (.int .u64 0) := by kernel_rfl
theorem td_13 : tdat Tryd.prog 13 = some ⟨true, 2, 24, .agg #[.string ⟨#[]⟩, .int .u64 0]⟩ := by kernel_rfl
theorem zv_13 : ofV (.agg #[.string ⟨#[]⟩, .int .u64 0]) = .ag [.v (.string ⟨#[]⟩), .v (.int .u64 0)] := by kernel_rfl
theorem tf_13 : tflds Tryd.prog 13 = some [(0, 1, false), (1, 1, false)] := by kernel_rfl
theorem td_14 : tdat Tryd.prog 14 = some ⟨true, 2, 24, .agg #[.string ⟨#[]⟩, .int .u64 0]⟩ := by kernel_rfl
theorem zv_14 : ofV (.agg #[.string ⟨#[]⟩, .int .u64 0]) = .ag [.v (.string ⟨#[]⟩), .v (.int .u64 0)] := by kernel_rfl
theorem tf_14 : tflds Tryd.prog 14 = some [(0, 1, false), (1, 1, false)] := by kernel_rfl
theorem nk_15 : nkT Tryd.prog 15 = some .nkp := by kernel_rfl
theorem td_15 : tdat Tryd.prog 15 = some ⟨false, 1, 8, .pointer none⟩ := by kernel_rfl
theorem zv_15 : ofV (.pointer none) = .v (.pointer none) := by kernel_rfl
theorem nk_16 : nkT Tryd.prog 16 = some .nkp := by kernel_rfl
theorem td_16 : tdat Tryd.prog 16 = some ⟨false, 1, 8, .pointer none⟩ := by kernel_rfl
theorem zv_16 : ofV (.pointer none) = .v (.pointer none) := by kernel_rfl
theorem nk_17 : nkT Tryd.prog 17 = some .nkp := by kernel_rfl
theorem td_17 : tdat Tryd.prog 17 = some ⟨false, 1, 8, .pointer none⟩ := by kernel_rfl
theorem zv_17 : ofV (.pointer none) = .v (.pointer none) := by kernel_rfl
theorem td_18 : tdat Tryd.prog 18 = some ⟨true, 1, 8, .agg #[.pointer none]⟩ := by kernel_rfl
theorem zv_18 : ofV (.agg #[.pointer none]) = .ag [.v (.pointer none)] := by kernel_rfl
theorem tf_18 : tflds Tryd.prog 18 = some [(0, 1, false)] := by kernel_rfl
theorem td_19 : tdat Tryd.prog 19 = some ⟨true, 1, 8, .agg #[.pointer none]⟩ := by kernel_rfl
theorem zv_19 : ofV (.agg #[.pointer none]) = .ag [.v (.pointer none)] := by kernel_rfl
theorem tf_19 : tflds Tryd.prog 19 = some [(0, 1, false)] := by kernel_rfl
theorem nk_20 : nkT Tryd.prog 20 = some .nki := by kernel_rfl
theorem td_20 : tdat Tryd.prog 20 = some ⟨false, 1, 16, .nilIface⟩ := by kernel_rfl
theorem zv_20 : ofV (.nilIface) = .v .nilIface := by kernel_rfl
theorem td_21 : tdat Tryd.prog 21 = some ⟨false, 1, 4, .int .i32 0⟩ := by kernel_rfl
theorem zv_21 : ofV (.int .i32 0) = .v (.int .i32 0) := by kernel_rfl
theorem td_22 : tdat Tryd.prog 22 = some ⟨false, 1, 24, .slice none 0 0⟩ := by kernel_rfl
theorem zv_22 : ofV (.slice none 0 0) = .sl .full [] := by kernel_rfl
theorem tel_22 : tel Tryd.prog 22 = some 9 := by kernel_rfl
theorem td_23 : tdat Tryd.prog 23 = some ⟨true, 2, 16, .agg #[.int .i64 0, .int .i64 0]⟩ := by kernel_rfl
theorem zv_23 : ofV (.agg #[.int .i64 0, .int .i64 0]) = .ag [.v (.int .i64 0), .v (.int .i64 0)] := by kernel_rfl
theorem tf_23 : tflds Tryd.prog 23 = some [(0, 1, false), (1, 1, false)] := by kernel_rfl
theorem td_24 : tdat Tryd.prog 24 = some ⟨true, 2, 16, .agg #[.int .i64 0, .int .i64 0]⟩ := by kernel_rfl
theorem zv_24 : ofV (.agg #[.int .i64 0, .int .i64 0]) = .ag [.v (.int .i64 0), .v (.int .i64 0)] := by kernel_rfl
theorem tf_24 : tflds Tryd.prog 24 = some [(0, 1, false), (1, 1, false)] := by kernel_rfl
theorem td_25 : tdat Tryd.prog 25 = some ⟨true, 4, 56, .agg #[.string ⟨#[]⟩, .slice none 0 0, .int .i64 0, .int .i64 0]⟩ := by kernel_rfl
theorem zv_25 : ofV (.agg #[.string ⟨#[]⟩, .slice none 0 0, .int .i64 0, .int .i64 0]) = .ag [.v (.string ⟨#[]⟩), .sl .full [], .v (.int .i64 0), .v (.int .i64 0)] := by kernel_rfl
theorem tf_25 : tflds Tryd.prog 25 = some [(0, 1, false), (1, 1, false), (2, 2, true)] := by kernel_rfl
theorem td_26 : tdat Tryd.prog 26 = some ⟨true, 4, 56, .agg #[.string ⟨#[]⟩, .slice none 0 0, .int .i64 0, .int .i64 0]⟩ := by kernel_rfl
theorem zv_26 : ofV (.agg #[.string ⟨#[]⟩, .slice none 0 0, .int .i64 0, .int .i64 0]) = .ag [.v (.string ⟨#[]⟩), .sl .full [], .v (.int .i64 0), .v (.int .i64 0)] := by kernel_rfl
theorem tf_26 : tflds Tryd.prog 26 = some [(0, 1, false), (1, 1, false), (2, 2, true)] := by kernel_rfl
theorem td_27 : tdat Tryd.prog 27 = some ⟨false, 1, 24, .slice none 0 0⟩ := by kernel_rfl
theorem zv_27 : ofV (.slice none 0 0) = .sl .full [] := by kernel_rfl
theorem tel_27 : tel Tryd.prog 27 = some 26 := by kernel_rfl
theorem td_28 : tdat Tryd.prog 28 = some ⟨false, 1, 24, .slice none 0 0⟩ := by kernel_rfl
theorem zv_28 : ofV (.slice none 0 0) = .sl .full [] := by kernel_rfl
theorem tel_28 : tel Tryd.prog 28 = some 65 := by kernel_rfl
theorem td_29 : tdat Tryd.prog 29 = some ⟨true, 2, 48, .agg #[.slice none 0 0, .slice none 0 0]⟩ := by kernel_rfl
theorem zv_29 : ofV (.agg #[.slice none 0 0, .slice none 0 0]) = .ag [.sl .full [], .sl .full []] := by kernel_rfl
theorem tf_29 : tflds Tryd.prog 29 = some [(0, 1, false), (1, 1, false)] := by kernel_rfl
theorem td_30 : tdat Tryd.prog 30 = some ⟨true, 2, 48, .agg #[.slice none 0 0, .slice none 0 0]⟩ := by kernel_rfl
theorem zv_30 : ofV (.agg #[.slice none 0 0, .slice none 0 0]) = .ag [.sl .full [], .sl .full []] := by kernel_rfl
theorem tf_30 : tflds Tryd.prog 30 = some [(0, 1, false), (1, 1, false)] := by kernel_rfl
theorem td_31 : tdat Tryd.prog 31 = some ⟨false, 1, 24, .slice none 0 0⟩ := by kernel_rfl
theorem zv_31 : ofV (.slice none 0 0) = .sl .full [] := by kernel_rfl
theorem tel_31 : tel Tryd.prog 31 = some 33 := by kernel_rfl
theorem td_32 : tdat Tryd.prog 32 = some ⟨true, 8, 88, .agg #[.int .u8 0, .int .u8 0, .int .i32 0, .string ⟨#[]⟩, .slice none 0 0, .slice none 0 0, .int .i64 0, .int .i64 0]⟩ := by kernel_rfl
theorem zv_32 : ofV (.agg #[.int .u8 0, .int .u8 0, .int .i32 0, .string ⟨#[]⟩, .slice none 0 0, .slice none 0 0, .int .i64 0, .int .i64 0]) = .ag [.v (.int .u8 0), .v (.int .u8 0), .v (.int .i32 0), .v (.string ⟨#[]⟩), .sl .full [], .sl .full [], .v (.int .i64 0), .v (.int .i64 0)] := by kernel_rfl
theorem tf_32 : tflds Tryd.prog 32 = some [(0, 1, false), (1, 1, false), (2, 1, false), (3, 1, false), (4, 1, false), (5, 1, false), (6, 2, true)] := by kernel_rfl
theorem td_33 : tdat Tryd.prog 33 = some ⟨true, 8, 88, .agg #[.int .u8 0, .int .u8 0, .int .i32 0, .string ⟨#[]⟩, .slice none 0 0, .slice none 0 0, .int .i64 0, .int .i64 0]⟩ := by kernel_rfl
theorem zv_33 : ofV (.agg #[.int .u8 0, .int .u8 0, .int .i32 0, .string ⟨#[]⟩, .slice none 0 0, .slice none 0 0, .int .i64 0, .int .i64 0]) = .ag [.v (.int .u8 0), .v (.int .u8 0), .v (.int .i32 0), .v (.string ⟨#[]⟩), .sl .full [], .sl .full [], .v (.int .i64 0), .v (.int .i64 0)] := by kernel_rfl
theorem tf_33 : tflds Tryd.prog 33 = some [(0, 1, false), (1, 1, false), (2, 1, false), (3, 1, false), (4, 1, false), (5, 1, false), (6, 2, true)] := by kernel_rfl
theorem td_34 : tdat Tryd.prog 34 = some ⟨true, 2, 24, .agg #[.int .u8 0, .string ⟨#[]⟩]⟩ := by kernel_rfl
theorem zv_34 : ofV (.agg #[.int .u8 0, .string ⟨#[]⟩]) = .ag [.v (.int .u8 0), .v (.string ⟨#[]⟩)] := by kernel_rfl
theorem tf_34 : tflds Tryd.prog 34 = some [(0, 1, false), (1, 1, false)] := by kernel_rfl
theorem fl_34 : flat1 Tryd.prog 34 = some [.ski, .sks] := by kernel_rfl
theorem td_35 : tdat Tryd.prog 35 = some ⟨true, 2, 24, .agg #[.int .u8 0, .string ⟨#[]⟩]⟩ := by kernel_rfl
theorem zv_35 : ofV (.agg #[.int .u8 0, .string ⟨#[]⟩]) = .ag [.v (.int .u8 0), .v (.string ⟨#[]⟩)] := by kernel_rfl
theorem tf_35 : tflds Tryd.prog 35 = some [(0, 1, false), (1, 1, false)] := by kernel_rfl
theorem fl_35 : flat1 Tryd.prog 35 = some [.ski, .sks] := by kernel_rfl
theorem nk_36 : nkT Tryd.prog 36 = some .nki := by kernel_rfl
theorem td_36 : tdat Tryd.prog 36 = some ⟨false, 1, 16, .nilIface⟩ := by kernel_rfl
theorem zv_36 : ofV (.nilIface) = .v .nilIface := by kernel_rfl
theorem nk_37 : nkT Tryd.prog 37 = some .nki := by kernel_rfl
theorem td_37 : tdat Tryd.prog 37 = some ⟨false, 1, 16, .nilIface⟩ := by kernel_rfl
theorem zv_37 : ofV (.nilIface) = .v .nilIface := by kernel_rfl
theorem nk_39 : nkT Tryd.prog 39 = some .nkf := by kernel_rfl
theorem nk_41 : nkT Tryd.prog 41 = some .nkf := by kernel_rfl
theorem nk_42 : nkT Tryd.prog 42 = some .nkf := by kernel_rfl
theorem nk_43 : nkT Tryd.prog 43 = some .nkf := by kernel_rfl
theorem td_44 : tdat Tryd.prog 44 = some ⟨false, 1, 24, .slice none 0 0⟩ := by kernel_rfl
theorem zv_44 : ofV (.slice none 0 0) = .sl .full [] := by kernel_rfl
theorem tel_44 : tel Tryd.prog 44 = some 5 := by kernel_rfl
theorem nk_45 : nkT Tryd.prog 45 = some .nkf := by kernel_rfl
theorem nk_46 : nkT Tryd.prog 46 = some .nkf := by kernel_rfl
theorem nk_47 : nkT Tryd.prog 47 = some .nkf := by kernel_rfl
theorem td_48 : tdat Tryd.prog 48 = some ⟨false, 1, 24, .slice none 0 0⟩ := by kernel_rfl
theorem zv_48 : ofV (.slice none 0 0) = .sl .full [] := by kernel_rfl
theorem tel_48 : tel Tryd.prog 48 = some 69 := by kernel_rfl
theorem nk_49 : nkT Tryd.prog 49 = some .nkf := by kernel_rfl
theorem nk_50 : nkT Tryd.prog 50 = some .nkp := by kernel_rfl
theorem td_50 : tdat Tryd.prog 50 = some ⟨false, 1, 8, .pointer none⟩ := by kernel_rfl
theorem zv_50 : ofV (.pointer none) = .v (.pointer none) := by kernel_rfl
theorem nk_51 : nkT Tryd.prog 51 = some .nkp := by kernel_rfl
theorem td_51 : tdat Tryd.prog 51 = some ⟨false, 1, 8, .pointer none⟩ := by kernel_rfl
theorem zv_51 : ofV (.pointer none) = .v (.pointer none) := by kernel_rfl
theorem td_52 : tdat Tryd.prog 52 = some ⟨true, 2, 48, .agg #[.slice none 0 0, .slice none 0 0]⟩ := by kernel_rfl
theorem zv_52 : ofV (.agg #[.slice none 0 0, .slice none 0 0]) = .ag [.sl .full [], .sl .full []] := by kernel_rfl
theorem tf_52 : tflds Tryd.prog 52 = some [(0, 2, true)] := by kernel_rfl
theorem td_53 : tdat Tryd.prog 53 = some ⟨true, 2, 48, .agg #[.slice none 0 0, .slice none 0 0]⟩ := by kernel_rfl
theorem zv_53 : ofV (.agg #[.slice none 0 0, .slice none 0 0]) = .ag [.sl .full [], .sl .full []] := by kernel_rfl
theorem tf_53 : tflds Tryd.prog 53 = some [(0, 2, true)] := by kernel_rfl
theorem nk_54 : nkT Tryd.prog 54 = some .nkf := by kernel_rfl
theorem nk_55 : nkT Tryd.prog 55 = some .nkp := by kernel_rfl
theorem td_55 : tdat Tryd.prog 55 = some ⟨false, 1, 8, .pointer none⟩ := by kernel_rfl
theorem zv_55 : ofV (.pointer none) = .v (.pointer none) := by kernel_rfl
theorem td_56 : tdat Tryd.prog 56 = some ⟨true, 5, 72, .agg #[.slice none 0 0, .slice none 0 0, .bool false, .int .i64 0, .int .i64 0]⟩ := by kernel_rfl
theorem zv_56 : ofV (.agg #[.slice none 0 0, .slice none 0 0, .bool false, .int .i64 0, .int .i64 0]) = .ag [.sl .full [], .sl .full [], .v (.bool false), .v (.int .i64 0), .v (.int .i64 0)] := by kernel_rfl
theorem tf_56 : tflds Tryd.prog 56 = some [(0, 2, true), (2, 1, false), (3, 2, true)] := by kernel_rfl
theorem td_57 : tdat Tryd.prog 57 = some ⟨true, 5, 72, .agg #[.slice none 0 0, .slice none 0 0, .bool false, .int .i64 0, .int .i64 0]⟩ := by kernel_rfl
theorem zv_57 : ofV (.agg #[.slice none 0 0, .slice none 0 0, .bool false, .int .i64 0, .int .i64 0]) = .ag [.sl .full [], .sl .full [], .v (.bool false), .v (.int .i64 0), .v (.int .i64 0)] := by kernel_rfl
theorem tf_57 : tflds Tryd.prog 57 = some [(0, 2, true), (2, 1, false), (3, 2, true)] := by kernel_rfl
theorem td_58 : tdat Tryd.prog 58 = some ⟨false, 1, 8, .int .i64 0⟩ := by kernel_rfl
theorem zv_58 : ofV (.int .i64 0) = .v (.int .i64 0) := by kernel_rfl
theorem nk_59 : nkT Tryd.prog 59 = some .nkf := by kernel_rfl
theorem nk_60 : nkT Tryd.prog 60 = some .nkf := by kernel_rfl
theorem td_61 : tdat Tryd.prog 61 = some ⟨false, 1, 24, .slice none 0 0⟩ := by kernel_rfl
theorem zv_61 : ofV (.slice none 0 0) = .sl .full [] := by kernel_rfl
theorem tel_61 : tel Tryd.prog 61 = some 110 := by kernel_rfl
theorem td_62 : tdat Tryd.prog 62 = some ⟨true, 2, 48, .agg #[.slice none 0 0, .slice none 0 0]⟩ := by kernel_rfl
theorem zv_62 : ofV (.agg #[.slice none 0 0, .slice none 0 0]) = .ag [.sl .full [], .sl .full []] := by kernel_rfl
theorem tf_62 : tflds Tryd.prog 62 = some [(0, 1, false), (1, 1, false)] := by kernel_rfl
theorem td_63 : tdat Tryd.prog 63 = some ⟨true, 2, 48, .agg #[.slice none 0 0, .slice none 0 0]⟩ := by kernel_rfl
theorem zv_63 : ofV (.agg #[.slice none 0 0, .slice none 0 0]) = .ag [.sl .full [], .sl .full []] := by kernel_rfl
theorem tf_63 : tflds Tryd.prog 63 = some [(0, 1, false), (1, 1, false)] := by kernel_rfl
theorem td_64 : tdat Tryd.prog 64 = some ⟨true, 7, 128, .agg #[.string ⟨#[]⟩, .slice none 0 0, .slice none 0 0, .slice none 0 0, .slice none 0 0, .int .i64 0, .int .i64 0]⟩ := by kernel_rfl
theorem zv_64 : ofV (.agg #[.string ⟨#[]⟩, .slice none 0 0, .slice none 0 0, .slice none 0 0, .slice none 0 0, .int .i64 0, .int .i64 0]) = .ag [.v (.string ⟨#[]⟩), .sl .full [], .sl .full [], .sl .full [], .sl .full [], .v (.int .i64 0), .v (.int .i64 0)] := by kernel_rfl
theorem tf_64 : tflds Tryd.prog 64 = some [(0, 1, false), (1, 1, false), (2, 1, false), (3, 2, true), (5, 2, true)] := by kernel_rfl
theorem td_65 : tdat Tryd.prog 65 = some ⟨true, 7, 128, .agg #[.string ⟨#[]⟩, .slice none 0 0, .slice none 0 0, .slice none 0 0, .slice none 0 0, .int .i64 0, .int .i64 0]⟩ := by kernel_rfl
theorem zv_65 : ofV (.agg #[.string ⟨#[]⟩, .slice none 0 0, .slice none 0 0, .slice none 0 0, .slice none 0 0, .int .i64 0, .int .i64 0]) = .ag [.v (.string ⟨#[]⟩), .sl .full [], .sl .full [], .sl .full [], .sl .full [], .v (.int .i64 0), .v (.int .i64 0)] := by kernel_rfl
theorem tf_65 : tflds Tryd.prog 65 = some [(0, 1, false), (1, 1, false), (2, 1, false), (3, 2, true), (5, 2, true)] := by kernel_rfl
theorem nk_66 : nkT Tryd.prog 66 = some .nkf := by kernel_rfl
theorem td_67 : tdat Tryd.prog 67 = some ⟨false, 1, 24, .slice none 0 0⟩ := by kernel_rfl
theorem zv_67 : ofV (.slice none 0 0) = .sl .full [] := by kernel_rfl
theorem tel_67 : tel Tryd.prog 67 = some 106 := by kernel_rfl
theorem td_68 : tdat Tryd.prog 68 = some ⟨true, 15, 176, .agg #[.string ⟨#[]⟩, .int .u8 0, .string ⟨#[]⟩, .slice none 0 0, .bool false, .int .u8 0, .int .u8 0, .int .i32 0, .string ⟨#[]⟩, .slice none 0 0, .slice none 0 0, .int .i64 0, .int .i64 0, .int .i64 0, .int .i64 0]⟩ := by kernel_rfl
theorem zv_68 : ofV (.agg #[.string ⟨#[]⟩, .int .u8 0, .string ⟨#[]⟩, .slice none 0 0, .bool false, .int .u8 0, .int .u8 0, .int .i32 0, .string ⟨#[]⟩, .slice none 0 0, .slice none 0 0, .int .i64 0, .int .i64 0, .int .i64 0, .int .i64 0]) = .ag [.v (.string ⟨#[]⟩), .v (.int .u8 0), .v (.string ⟨#[]⟩), .sl .full [], .v (.bool false), .v (.int .u8 0), .v (.int .u8 0), .v (.int .i32 0), .v (.string ⟨#[]⟩), .sl .full [], .sl .full [], .v (.int .i64 0), .v (.int .i64 0), .v (.int .i64 0), .v (.int .i64 0)] := by kernel_rfl
theorem tf_68 : tflds Tryd.prog 68 = some [(0, 1, false), (1, 2, true), (3, 1, false), (4, 1, false), (5, 8, true), (13, 2, true)] := by kernel_rfl
theorem td_69 : tdat Tryd.prog 69 = some ⟨true, 15, 176, .agg #[.string ⟨#[]⟩, .int .u8 0, .string ⟨#[]⟩, .slice none 0 0, .bool false, .int .u8 0, .int .u8 0, .int .i32 0, .string ⟨#[]⟩, .slice none 0 0, .slice none 0 0, .int .i64 0, .int .i64 0, .int .i64 0, .int .i64 0]⟩ := by kernel_rfl
theorem zv_69 : ofV (.agg #[.string ⟨#[]⟩, .int .u8 0, .string ⟨#[]⟩, .slice none 0 0, .bool false, .int .u8 0, .int .u8 0, .int .i32 0, .string ⟨#[]⟩, .slice none 0 0, .slice none 0 0, .int .i64 0, .int .i64 0, .int .i64 0, .int .i64 0]) = .ag [.v (.string ⟨#[]⟩), .v (.int .u8 0), .v (.string ⟨#[]⟩), .sl .full [], .v (.bool false), .v (.int .u8 0), .v (.int .u8 0), .v (.int .i32 0), .v (.string ⟨#[]⟩), .sl .full [], .sl .full [], .v (.int .i64 0), .v (.int .i64 0), .v (.int .i64 0), .v (.int .i64 0)] := by kernel_rfl
theorem tf_69 : tflds Tryd.prog 69 = some [(0, 1, false), (1, 2, true), (3, 1, false), (4, 1, false), (5, 8, true), (13, 2, true)] := by kernel_rfl
theorem nk_70 : nkT Tryd.prog 70 = some .nkf := by kernel_rfl
theorem nk_71 : nkT Tryd.prog 71 = some .nkf := by kernel_rfl
theorem nk_72 : nkT Tryd.prog 72 = some .nkp := by kernel_rfl
theorem td_72 : tdat Tryd.prog 72 = some ⟨false, 1, 8, .pointer none⟩ := by kernel_rfl
theorem zv_72 : ofV (.pointer none) = .v (.pointer none) := by kernel_rfl
theorem td_73 : tdat Tryd.prog 73 = some ⟨true, 2, 32, .agg #[.slice none 0 0, .int .i64 0]⟩ := by kernel_rfl
theorem zv_73 : ofV (.agg #[.slice none 0 0, .int .i64 0]) = .ag [.sl .full [], .v (.int .i64 0)] := by kernel_rfl
theorem tf_73 : tflds Tryd.prog 73 = some [(0, 1, false), (1, 1, false)] := by kernel_rfl
theorem td_74 : tdat Tryd.prog 74 = some ⟨true, 2, 32, .agg #[.slice none 0 0, .int .i64 0]⟩ := by kernel_rfl
theorem zv_74 : ofV (.agg #[.slice none 0 0, .int .i64 0]) = .ag [.sl .full [], .v (.int .i64 0)] := by kernel_rfl
theorem tf_74 : tflds Tryd.prog 74 = some [(0, 1, false), (1, 1, false)] := by kernel_rfl
theorem nk_75 : nkT Tryd.prog 75 = some .nkf := by kernel_rfl
theorem nk_76 : nkT Tryd.prog 76 = some .nkp := by kernel_rfl
theorem td_76 : tdat Tryd.prog 76 = some ⟨false, 1, 8, .pointer none⟩ := by kernel_rfl
theorem zv_76 : ofV (.pointer none) = .v (.pointer none) := by kernel_rfl
theorem td_77 : tdat Tryd.prog 77 = some ⟨true, 5, 40, .agg #[.pointer none, .int .i64 0, .int .i64 0, .int .i64 0, .bool false]⟩ := by kernel_rfl
theorem zv_77 : ofV (.agg #[.pointer none, .int .i64 0, .int .i64 0, .int .i64 0, .bool false]) = .ag [.v (.pointer none), .v (.int .i64 0), .v (.int .i64 0), .v (.int .i64 0), .v (.bool false)] := by kernel_rfl
theorem tf_77 : tflds Tryd.prog 77 = some [(0, 1, false), (1, 1, false), (2, 1, false), (3, 1, false), (4, 1, false)] := by kernel_rfl
theorem td_78 : tdat Tryd.prog 78 = some ⟨true, 5, 40, .agg #[.pointer none, .int .i64 0, .int .i64 0, .int .i64 0, .bool false]⟩ := by kernel_rfl
theorem zv_78 : ofV (.agg #[.pointer none, .int .i64 0, .int .i64 0, .int .i64 0, .bool false]) = .ag [.v (.pointer none), .v (.int .i64 0), .v (.int .i64 0), .v (.int .i64 0), .v (.bool false)] := by kernel_rfl
theorem tf_78 : tflds Tryd.prog 78 = some [(0, 1, false), (1, 1, false), (2, 1, false), (3, 1, false), (4, 1, false)] := by kernel_rfl
theorem nk_79 : nkT Tryd.prog 79 = some .nkf := by kernel_rfl
theorem td_80 : tdat Tryd.prog 80 = some ⟨true, 1, 16, .agg #[.nilIface]⟩ := by kernel_rfl
theorem zv_80 : ofV (.agg #[.nilIface]) = .ag [.v .nilIface] := by kernel_rfl
theorem tf_80 : tflds Tryd.prog 80 = some [(0, 1, false)] := by kernel_rfl
theorem td_81 : tdat Tryd.prog 81 = some ⟨true, 1, 16, .agg #[.nilIface]⟩ := by kernel_rfl
theorem zv_81 : ofV (.agg #[.nilIface]) = .ag [.v .nilIface] := by kernel_rfl
theorem tf_81 : tflds Tryd.prog 81 = some [(0, 1, false)] := by kernel_rfl
theorem td_82 : tdat Tryd.prog 82 = some ⟨false, 1, 24, .slice none 0 0⟩ := by kernel_rfl
theorem zv_82 : ofV (.slice none 0 0) = .sl .full [] := by kernel_rfl
theorem tel_82 : tel Tryd.prog 82 = some 35 := by kernel_rfl
theorem nk_83 : nkT Tryd.prog 83 = some .nkf := by kernel_rfl
theorem nk_84 : nkT Tryd.prog 84 = some .nkf := by kernel_rfl
theorem nk_85 : nkT Tryd.prog 85 = some .nkf := by kernel_rfl
theorem nk_86 : nkT Tryd.prog 86 = some .nkf := by kernel_rfl
theorem nk_87 : nkT Tryd.prog 87 = some .nkf := by kernel_rfl
theorem nk_88 : nkT Tryd.prog 88 = some .nkf := by kernel_rfl
theorem nk_89 : nkT Tryd.prog 89 = some .nkf := by kernel_rfl
theorem nk_90 : nkT Tryd.prog 90 = some .nkf := by kernel_rfl
theorem nk_91 : nkT Tryd.prog 91 = some .nkf := by kernel_rfl
theorem nk_93 : nkT Tryd.prog 93 = some .nkf := by kernel_rfl
theorem nk_95 : nkT Tryd.prog 95 = some .nkf := by kernel_rfl
theorem nk_96 : nkT Tryd.prog 96 = some .nkf := by kernel_rfl
theorem nk_97 : nkT Tryd.prog 97 = some .nkf := by kernel_rfl
theorem nk_98 : nkT Tryd.prog 98 = some .nkp := by kernel_rfl
theorem td_98 : tdat Tryd.prog 98 = some ⟨false, 1, 8, .pointer none⟩ := by kernel_rfl
theorem zv_98 : ofV (.pointer none) = .v (.pointer none) := by kernel_rfl
theorem nk_99 : nkT Tryd.prog 99 = some .nkf := by kernel_rfl
theorem nk_100 : nkT Tryd.prog 100 = some .nkp := by kernel_rfl
theorem td_100 : tdat Tryd.prog 100 = some ⟨false, 1, 8, .pointer none⟩ := by kernel_rfl
theorem zv_100 : ofV (.pointer none) = .v (.pointer none) := by kernel_rfl
theorem td_101 : tdat Tryd.prog 101 = some ⟨true, 5, 56, .agg #[.int .i64 0, .int .i64 0, .string ⟨#[]⟩, .bool false, .nilIface]⟩ := by kernel_rfl
theorem zv_101 : ofV (.agg #[.int .i64 0, .int .i64 0, .string ⟨#[]⟩, .bool false, .nilIface]) = .ag [.v (.int .i64 0), .v (.int .i64 0), .v (.string ⟨#[]⟩), .v (.bool false), .v .nilIface] := by kernel_rfl
theorem tf_101 : tflds Tryd.prog 101 = some [(0, 2, true), (2, 1, false), (3, 1, false), (4, 1, false)] := by kernel_rfl
theorem td_102 : tdat Tryd.prog 102 = some ⟨true, 5, 56, .agg #[.int .i64 0, .int .i64 0, .string ⟨#[]⟩, .bool false, .nilIface]⟩ := by kernel_rfl
theorem zv_102 : ofV (.agg #[.int .i64 0, .int .i64 0, .string ⟨#[]⟩, .bool false, .nilIface]) = .ag [.v (.int .i64 0), .v (.int .i64 0), .v (.string ⟨#[]⟩), .v (.bool false), .v .nilIface] := by kernel_rfl
theorem tf_102 : tflds Tryd.prog 102 = some [(0, 2, true), (2, 1, false), (3, 1, false), (4, 1, false)] := by kernel_rfl
theorem td_103 : tdat Tryd.prog 103 = some ⟨false, 1, 24, .slice none 0 0⟩ := by kernel_rfl
theorem zv_103 : ofV (.slice none 0 0) = .sl .full [] := by kernel_rfl
theorem tel_103 : tel Tryd.prog 103 = some 48 := by kernel_rfl
theorem nk_104 : nkT Tryd.prog 104 = some .nkf := by kernel_rfl
theorem td_105 : tdat Tryd.prog 105 = some ⟨true, 2, 32, .agg #[.string ⟨#[]⟩, .string ⟨#[]⟩]⟩ := by kernel_rfl
theorem zv_105 : ofV (.agg #[.string ⟨#[]⟩, .string ⟨#[]⟩]) = .ag [.v (.string ⟨#[]⟩), .v (.string ⟨#[]⟩)] := by kernel_rfl
theorem tf_105 : tflds Tryd.prog 105 = some [(0, 1, false), (1, 1, false)] := by kernel_rfl
theorem fl_105 : flat1 Tryd.prog 105 = some [.sks, .sks] := by kernel_rfl
theorem td_106 : tdat Tryd.prog 106 = some ⟨true, 2, 32, .agg #[.string ⟨#[]⟩, .string ⟨#[]⟩]⟩ := by kernel_rfl
theorem zv_106 : ofV (.agg #[.string ⟨#[]⟩, .string ⟨#[]⟩]) = .ag [.v (.string ⟨#[]⟩), .v (.string ⟨#[]⟩)] := by kernel_rfl
theorem tf_106 : tflds Tryd.prog 106 = some [(0, 1, false), (1, 1, false)] := by kernel_rfl
theorem fl_106 : flat1 Tryd.prog 106 = some [.sks, .sks] := by kernel_rfl
theorem nk_107 : nkT Tryd.prog 107 = some .nkf := by kernel_rfl
theorem td_108 : tdat Tryd.prog 108 = some ⟨false, 1, 24, .slice none 0 0⟩ := by kernel_rfl
theorem zv_108 : ofV (.slice none 0 0) = .sl .full [] := by kernel_rfl
theorem tel_108 : tel Tryd.prog 108 = some 142 := by kernel_rfl
theorem td_109 : tdat Tryd.prog 109 = some ⟨true, 16, 208, .agg #[.int .u8 0, .slice none 0 0, .string ⟨#[]⟩, .slice none 0 0, .bool false, .int .u8 0, .int .u8 0, .int .i32 0, .string ⟨#[]⟩, .slice none 0 0, .slice none 0 0, .int .i64 0, .int .i64 0, .slice none 0 0, .int .i64 0, .int .i64 0]⟩ := by kernel_rfl
theorem zv_109 : ofV (.agg #[.int .u8 0, .slice none 0 0, .string ⟨#[]⟩, .slice none 0 0, .bool false, .int .u8 0, .int .u8 0, .int .i32 0, .string ⟨#[]⟩, .slice none 0 0, .slice none 0 0, .int .i64 0, .int .i64 0, .slice none 0 0, .int .i64 0, .int .i64 0]) = .ag [.v (.int .u8 0), .sl .full [], .v (.string ⟨#[]⟩), .sl .full [], .v (.bool false), .v (.int .u8 0), .v (.int .u8 0), .v (.int .i32 0), .v (.string ⟨#[]⟩), .sl .full [], .sl .full [], .v (.int .i64 0), .v (.int .i64 0), .sl .full [], .v (.int .i64 0), .v (.int .i64 0)] := by kernel_rfl
theorem tf_109 : tflds Tryd.prog 109 = some [(0, 1, false), (1, 1, false), (2, 1, false), (3, 1, false), (4, 1, false), (5, 8, true), (13, 1, false), (14, 2, true)] := by kernel_rfl
theorem td_110 : tdat Tryd.prog 110 = some ⟨true, 16, 208, .agg #[.int .u8 0, .slice none 0 0, .string ⟨#[]⟩, .slice none 0 0, .bool false, .int .u8 0, .int .u8 0, .int .i32 0, .string ⟨#[]⟩, .slice none 0 0, .slice none 0 0, .int .i64 0, .int .i64 0, .slice none 0 0, .int .i64 0, .int .i64 0]⟩ := by kernel_rfl
theorem zv_110 : ofV (.agg #[.int .u8 0, .slice none 0 0, .string ⟨#[]⟩, .slice none 0 0, .bool false, .int .u8 0, .int .u8 0, .int .i32 0, .string ⟨#[]⟩, .slice none 0 0, .slice none 0 0, .int .i64 0, .int .i64 0, .slice none 0 0, .int .i64 0, .int .i64 0]) = .ag [.v (.int .u8 0), .sl .full [], .v (.string ⟨#[]⟩), .sl .full [], .v (.bool false), .v (.int .u8 0), .v (.int .u8 0), .v (.int .i32 0), .v (.string ⟨#[]⟩), .sl .full [], .sl .full [], .v (.int .i64 0), .v (.int .i64 0), .sl .full [], .v (.int .i64 0), .v (.int .i64 0)] := by kernel_rfl
theorem tf_110 : tflds Tryd.prog 110 = some [(0, 1, false), (1, 1, false), (2, 1, false), (3, 1, false), (4, 1, false), (5, 8, true), (13, 1, false), (14, 2, true)] := by kernel_rfl
theorem nk_111 : nkT Tryd.prog 111 = some .nkf := by kernel_rfl
theorem nk_112 : nkT Tryd.prog 112 = some .nkf := by kernel_rfl
theorem nk_113 : nkT Tryd.prog 113 = some .nkf := by kernel_rfl
theorem nk_114 : nkT Tryd.prog 114 = some .nkf := by kernel_rfl
theorem td_115 : tdat Tryd.prog 115 = some ⟨true, 3, 72, .agg #[.slice none 0 0, .slice none 0 0, .slice none 0 0]⟩ := by kernel_rfl
theorem zv_115 : ofV (.agg #[.slice none 0 0, .slice none 0 0, .slice none 0 0]) = .ag [.sl .full [], .sl .full [], .sl .full []] := by kernel_rfl
theorem tf_115 : tflds Tryd.prog 115 = some [(0, 1, false), (1, 1, false), (2, 1, false)] := by kernel_rfl
theorem td_116 : tdat Tryd.prog 116 = some ⟨true, 3, 72, .agg #[.slice none 0 0, .slice none 0 0, .slice none 0 0]⟩ := by kernel_rfl
theorem zv_116 : ofV (.agg #[.slice none 0 0, .slice none 0 0, .slice none 0 0]) = .ag [.sl .full [], .sl .full [], .sl .full []] := by kernel_rfl
theorem tf_116 : tflds Tryd.prog 116 = some [(0, 1, false), (1, 1, false), (2, 1, false)] := by kernel_rfl
theorem nk_117 : nkT Tryd.prog 117 = some .nkf := by kernel_rfl
theorem nk_118 : nkT Tryd.prog 118 = some .nkf := by kernel_rfl
theorem nk_119 : nkT Tryd.prog 119 = some .nkf := by kernel_rfl
theorem nk_120 : nkT Tryd.prog 120 = some .nkf := by kernel_rfl
theorem nk_121 : nkT Tryd.prog 121 = some .nkf := by kernel_rfl
theorem nk_122 : nkT Tryd.prog 122 = some .nkf := by kernel_rfl
theorem nk_123 : nkT Tryd.prog 123 = some .nkf := by kernel_rfl
theorem nk_124 : nkT Tryd.prog 124 = some .nki := by kernel_rfl
theorem td_124 : tdat Tryd.prog 124 = some ⟨false, 1, 16, .nilIface⟩ := by kernel_rfl
theorem zv_124 : ofV (.nilIface) = .v .nilIface := by kernel_rfl
theorem nk_125 : nkT Tryd.prog 125 = some .nki := by kernel_rfl
theorem td_125 : tdat Tryd.prog 125 = some ⟨false, 1, 16, .nilIface⟩ := by kernel_rfl
theorem zv_125 : ofV (.nilIface) = .v .nilIface := by kernel_rfl
theorem nk_126 : nkT Tryd.prog 126 = some .nkf := by kernel_rfl
theorem nk_127 : nkT Tryd.prog 127 = some .nkf := by kernel_rfl
theorem td_128 : tdat Tryd.prog 128 = some ⟨false, 1, 8, .pointer none⟩ := by kernel_rfl
theorem zv_128 : ofV (.pointer none) = .v (.pointer none) := by kernel_rfl
theorem td_129 : tdat Tryd.prog 129 = some ⟨false, 1, 8, .int .u64 0⟩ := by kernel_rfl
theorem zv_129 : ofV (.int .u64 0) = .v (.int .u64 0) := by kernel_rfl
theorem td_130 : tdat Tryd.prog 130 = some ⟨true, 3, 24, .agg #[.pointer none, .pointer none, .int .u64 0]⟩ := by kernel_rfl
theorem zv_130 : ofV (.agg #[.pointer none, .pointer none, .int .u64 0]) = .ag [.v (.pointer none), .v (.pointer none), .v (.int .u64 0)] := by kernel_rfl
theorem tf_130 : tflds Tryd.prog 130 = some [(0, 1, false), (1, 1, false), (2, 1, false)] := by kernel_rfl
theorem td_131 : tdat Tryd.prog 131 = some ⟨true, 3, 24, .agg #[.pointer none, .pointer none, .int .u64 0]⟩ := by kernel_rfl
theorem zv_131 : ofV (.agg #[.pointer none, .pointer none, .int .u64 0]) = .ag [.v (.pointer none), .v (.pointer none), .v (.int .u64 0)] := by kernel_rfl
theorem tf_131 : tflds Tryd.prog 131 = some [(0, 1, false), (1, 1, false), (2, 1, false)] := by kernel_rfl
theorem nk_132 : nkT Tryd.prog 132 = some .nkf := by kernel_rfl
theorem nk_133 : nkT Tryd.prog 133 = some .nkf := by kernel_rfl
theorem td_134 : tdat Tryd.prog 134 = some ⟨false, 1, 1, .int .u8 0⟩ := by kernel_rfl
theorem zv_134 : ofV (.int .u8 0) = .v (.int .u8 0) := by kernel_rfl
theorem nk_135 : nkT Tryd.prog 135 = some .nkf := by kernel_rfl
theorem nk_136 : nkT Tryd.prog 136 = some .nkf := by kernel_rfl
theorem nk_137 : nkT Tryd.prog 137 = some .nkf := by kernel_rfl
theorem nk_138 : nkT Tryd.prog 138 = some .nkf := by kernel_rfl
theorem nk_139 : nkT Tryd.prog 139 = some .nkf := by kernel_rfl
theorem td_140 : tdat Tryd.prog 140 = some ⟨false, 1, 24, .slice none 0 0⟩ := by kernel_rfl
theorem zv_140 : ofV (.slice none 0 0) = .sl .full [] := by kernel_rfl
theorem tel_140 : tel Tryd.prog 140 = some 172 := by kernel_rfl
theorem td_141 : tdat Tryd.prog 141 = some ⟨true, 7, 128, .agg #[.string ⟨#[]⟩, .slice none 0 0, .slice none 0 0, .slice none 0 0, .slice none 0 0, .int .i64 0, .int .i64 0]⟩ := by kernel_rfl
theorem zv_141 : ofV (.agg #[.string ⟨#[]⟩, .slice none 0 0, .slice none 0 0, .slice none 0 0, .slice none 0 0, .int .i64 0, .int .i64 0]) = .ag [.v (.string ⟨#[]⟩), .sl .full [], .sl .full [], .sl .full [], .sl .full [], .v (.int .i64 0), .v (.int .i64 0)] := by kernel_rfl
theorem tf_141 : tflds Tryd.prog 141 = some [(0, 1, false), (1, 2, true), (3, 1, false), (4, 1, false), (5, 2, true)] := by kernel_rfl
theorem td_142 : tdat Tryd.prog 142 = some ⟨true, 7, 128, .agg #[.string ⟨#[]⟩, .slice none 0 0, .slice none 0 0, .slice none 0 0, .slice none 0 0, .int .i64 0, .int .i64 0]⟩ := by kernel_rfl
theorem zv_142 : ofV (.agg #[.string ⟨#[]⟩, .slice none 0 0, .slice none 0 0, .slice none 0 0, .slice none 0 0, .int .i64 0, .int .i64 0]) = .ag [.v (.string ⟨#[]⟩), .sl .full [], .sl .full [], .sl .full [], .sl .full [], .v (.int .i64 0), .v (.int .i64 0)] := by kernel_rfl
theorem tf_142 : tflds Tryd.prog 142 = some [(0, 1, false), (1, 2, true), (3, 1, false), (4, 1, false), (5, 2, true)] := by kernel_rfl
theorem nk_143 : nkT Tryd.prog 143 = some .nkf := by kernel_rfl
theorem td_144 : tdat Tryd.prog 144 = some ⟨false, 1, 24, .slice none 0 0⟩ := by kernel_rfl
theorem zv_144 : ofV (.slice none 0 0) = .sl .full [] := by kernel_rfl
theorem tel_144 : tel Tryd.prog 144 = some 21 := by kernel_rfl
theorem nk_145 : nkT Tryd.prog 145 = some .nkf := by kernel_rfl
theorem nk_146 : nkT Tryd.prog 146 = some .nkf := by kernel_rfl
theorem nk_148 : nkT Tryd.prog 148 = some .nkf := by kernel_rfl
theorem nk_149 : nkT Tryd.prog 149 = some .nkf := by kernel_rfl
theorem nk_150 : nkT Tryd.prog 150 = some .nkf := by kernel_rfl
theorem td_151 : tdat Tryd.prog 151 = some ⟨true, 1, 8, .agg #[.pointer none]⟩ := by kernel_rfl
theorem zv_151 : ofV (.agg #[.pointer none]) = .ag [.v (.pointer none)] := by kernel_rfl
theorem tf_151 : tflds Tryd.prog 151 = some [(0, 1, false)] := by kernel_rfl
theorem td_152 : tdat Tryd.prog 152 = some ⟨true, 1, 8, .agg #[.pointer none]⟩ := by kernel_rfl
theorem zv_152 : ofV (.agg #[.pointer none]) = .ag [.v (.pointer none)] := by kernel_rfl
theorem tf_152 : tflds Tryd.prog 152 = some [(0, 1, false)] := by kernel_rfl
theorem nk_153 : nkT Tryd.prog 153 = some .nkp := by kernel_rfl
theorem td_153 : tdat Tryd.prog 153 = some ⟨false, 1, 8, .pointer none⟩ := by kernel_rfl
theorem zv_153 : ofV (.pointer none) = .v (.pointer none) := by kernel_rfl
theorem nk_154 : nkT Tryd.prog 154 = some .nki := by kernel_rfl
theorem td_154 : tdat Tryd.prog 154 = some ⟨false, 1, 16, .nilIface⟩ := by kernel_rfl
theorem zv_154 : ofV (.nilIface) = .v .nilIface := by kernel_rfl
theorem nk_156 : nkT Tryd.prog 156 = some .nkf := by kernel_rfl
theorem nk_157 : nkT Tryd.prog 157 = some .nki := by kernel_rfl
theorem td_157 : tdat Tryd.prog 157 = some ⟨false, 1, 16, .nilIface⟩ := by kernel_rfl
theorem zv_157 : ofV (.nilIface) = .v .nilIface := by kernel_rfl
theorem nk_158 : nkT Tryd.prog 158 = some .nkf := by kernel_rfl
theorem nk_159 : nkT Tryd.prog 159 = some .nki := by kernel_rfl
theorem td_159 : tdat Tryd.prog 159 = some ⟨false, 1, 16, .nilIface⟩ := by kernel_rfl
theorem zv_159 : ofV (.nilIface) = .v .nilIface := by kernel_rfl
theorem td_160 : tdat Tryd.prog 160 = some ⟨false, 1, 24, .slice none 0 0⟩ := by kernel_rfl
theorem zv_160 : ofV (.slice none 0 0) = .sl .full [] := by kernel_rfl
theorem tel_160 : tel Tryd.prog 160 = some 37 := by kernel_rfl
theorem nk_161 : nkT Tryd.prog 161 = some .nkf := by kernel_rfl
theorem nk_162 : nkT Tryd.prog 162 = some .nkf := by kernel_rfl
theorem nk_163 : nkT Tryd.prog 163 = some .nkf := by kernel_rfl
theorem nk_164 : nkT Tryd.prog 164 = some .nki := by kernel_rfl
theorem td_164 : tdat Tryd.prog 164 = some ⟨false, 1, 16, .nilIface⟩ := by kernel_rfl
theorem zv_164 : ofV (.nilIface) = .v .nilIface := by kernel_rfl
theorem nk_166 : nkT Tryd.prog 166 = some .nkf := by kernel_rfl
theorem nk_167 : nkT Tryd.prog 167 = some .nkf := by kernel_rfl
theorem nk_168 : nkT Tryd.prog 168 = some .nkf := by kernel_rfl
theorem nk_169 : nkT Tryd.prog 169 = some .nkf := by kernel_rfl
theorem nk_170 : nkT Tryd.prog 170 = some .nkf := by kernel_rfl
theorem td_171 : tdat Tryd.prog 171 = some ⟨true, 12, 128, .agg #[.int .u8 0, .int .u8 0, .int .i32 0, .string ⟨#[]⟩, .slice none 0 0, .slice none 0 0, .int .i64 0, .int .i64 0, .string ⟨#[]⟩, .bool false, .int .i64 0, .int .i64 0]⟩ := by kernel_rfl
theorem zv_171 : ofV (.agg #[.int .u8 0, .int .u8 0, .int .i32 0, .string ⟨#[]⟩, .slice none 0 0, .slice none 0 0, .int .i64 0, .int .i64 0, .string ⟨#[]⟩, .bool false, .int .i64 0, .int .i64 0]) = .ag [.v (.int .u8 0), .v (.int .u8 0), .v (.int .i32 0), .v (.string ⟨#[]⟩), .sl .full [], .sl .full [], .v (.int .i64 0), .v (.int .i64 0), .v (.string ⟨#[]⟩), .v (.bool false), .v (.int .i64 0), .v (.int .i64 0)] := by kernel_rfl
theorem tf_171 : tflds Tryd.prog 171 = some [(0, 8, true), (8, 1, false), (9, 1, false), (10, 2, true)] := by kernel_rfl
theorem td_172 : tdat Tryd.prog 172 = some ⟨true, 12, 128, .agg #[.int .u8 0, .int .u8 0, .int .i32 0, .string ⟨#[]⟩, .slice none 0 0, .slice none 0 0, .int .i64 0, .int .i64 0, .string ⟨#[]⟩, .bool false, .int .i64 0, .int .i64 0]⟩ := by kernel_rfl
theorem zv_172 : ofV (.agg #[.int .u8 0, .int .u8 0, .int .i32 0, .string ⟨#[]⟩, .slice none 0 0, .slice none 0 0, .int .i64 0, .int .i64 0, .string ⟨#[]⟩, .bool false, .int .i64 0, .int .i64 0]) = .ag [.v (.int .u8 0), .v (.int .u8 0), .v (.int .i32 0), .v (.string ⟨#[]⟩), .sl .full [], .sl .full [], .v (.int .i64 0), .v (.int .i64 0), .v (.string ⟨#[]⟩), .v (.bool false), .v (.int .i64 0), .v (.int .i64 0)] := by kernel_rfl
theorem tf_172 : tflds Tryd.prog 172 = some [(0, 8, true), (8, 1, false), (9, 1, false), (10, 2, true)] := by kernel_rfl
theorem nk_173 : nkT Tryd.prog 173 = some .nkf := by kernel_rfl
theorem nk_174 : nkT Tryd.prog 174 = some .nkf := by kernel_rfl
theorem nk_175 : nkT Tryd.prog 175 = some .nkf := by kernel_rfl
theorem nk_176 : nkT Tryd.prog 176 = some .nkf := by kernel_rfl
theorem nk_177 : nkT Tryd.prog 177 = some .nkf := by kernel_rfl
theorem nk_178 : nkT Tryd.prog 178 = some .nkf := by kernel_rfl
theorem nk_179 : nkT Tryd.prog 179 = some .nkf := by kernel_rfl
theorem nk_181 : nkT Tryd.prog 181 = some .nkf := by kernel_rfl
theorem nk_182 : nkT Tryd.prog 182 = some .nkf := by kernel_rfl
theorem td_183 : tdat Tryd.prog 183 = some ⟨true, 4, 40, .agg #[.pointer none, .pointer none, .pointer none, .string ⟨#[]⟩]⟩ := by kernel_rfl
theorem zv_183 : ofV (.agg #[.pointer none, .pointer none, .pointer none, .string ⟨#[]⟩]) = .ag [.v (.pointer none), .v (.pointer none), .v (.pointer none), .v (.string ⟨#[]⟩)] := by kernel_rfl
theorem tf_183 : tflds Tryd.prog 183 = some [(0, 1, false), (1, 1, false), (2, 1, false), (3, 1, false)] := by kernel_rfl
theorem td_184 : tdat Tryd.prog 184 = some ⟨true, 4, 40, .agg #[.pointer none, .pointer none, .pointer none, .string ⟨#[]⟩]⟩ := by kernel_rfl
theorem zv_184 : ofV (.agg #[.pointer none, .pointer none, .pointer none, .string ⟨#[]⟩]) = .ag [.v (.pointer none), .v (.pointer none), .v (.pointer none), .v (.string ⟨#[]⟩)] := by kernel_rfl
theorem tf_184 : tflds Tryd.prog 184 = some [(0, 1, false), (1, 1, false), (2, 1, false), (3, 1, false)] := by kernel_rfl
theorem td_185 : tdat Tryd.prog 185 = some ⟨true, 0, 0, .agg #[]⟩ := by kernel_rfl
theorem zv_185 : ofV (.agg #[]) = .ag [] := by kernel_rfl
theorem td_186 : tdat Tryd.prog 186 = some ⟨true, 0, 0, .agg #[]⟩ := by kernel_rfl
theorem zv_186 : ofV (.agg #[]) = .ag [] := by kernel_rfl
theorem tf_186 : tflds Tryd.prog 186 = some [(0, 0, true)] := by kernel_rfl
theorem td_187 : tdat Tryd.prog 187 = some ⟨true, 0, 0, .agg #[]⟩ := by kernel_rfl
theorem zv_187 : ofV (.agg #[]) = .ag [] := by kernel_rfl
theorem tf_187 : tflds Tryd.prog 187 = some [(0, 0, true)] := by kernel_rfl
theorem nk_188 : nkT Tryd.prog 188 = some .nkf := by kernel_rfl
theorem nk_189 : nkT Tryd.prog 189 = some .nkf := by kernel_rfl
theorem td_190 : tdat Tryd.prog 190 = some ⟨false, 1, 4, .int .u32 0⟩ := by kernel_rfl
theorem zv_190 : ofV (.int .u32 0) = .v (.int .u32 0) := by kernel_rfl
theorem td_191 : tdat Tryd.prog 191 = some ⟨false, 1, 1, .int .u8 0⟩ := by kernel_rfl
theorem zv_191 : ofV (.int .u8 0) = .v (.int .u8 0) := by kernel_rfl
theorem nk_192 : nkT Tryd.prog 192 = some .nkf := by kernel_rfl
theorem nk_193 : nkT Tryd.prog 193 = some .nkp := by kernel_rfl
theorem td_193 : tdat Tryd.prog 193 = some ⟨false, 1, 8, .pointer none⟩ := by kernel_rfl
theorem zv_193 : ofV (.pointer none) = .v (.pointer none) := by kernel_rfl
theorem td_194 : tdat Tryd.prog 194 = some ⟨false, 1, 4, .int .i32 0⟩ := by kernel_rfl
theorem zv_194 : ofV (.int .i32 0) = .v (.int .i32 0) := by kernel_rfl
theorem td_195 : tdat Tryd.prog 195 = some ⟨false, 1, 4, .int .i32 0⟩ := by kernel_rfl
theorem zv_195 : ofV (.int .i32 0) = .v (.int .i32 0) := by kernel_rfl
theorem td_196 : tdat Tryd.prog 196 = some ⟨true, 11, 48, .agg #[.int .u64 0, .int .u64 0, .int .u32 0, .int .u8 0, .int .u8 0, .int .u8 0, .int .u8 0, .nilFunc, .pointer none, .int .i32 0, .int .i32 0]⟩ := by kernel_rfl
theorem zv_196 : ofV (.agg #[.int .u64 0, .int .u64 0, .int .u32 0, .int .u8 0, .int .u8 0, .int .u8 0, .int .u8 0, .nilFunc, .pointer none, .int .i32 0, .int .i32 0]) = .ag [.v (.int .u64 0), .v (.int .u64 0), .v (.int .u32 0), .v (.int .u8 0), .v (.int .u8 0), .v (.int .u8 0), .v (.int .u8 0), .v .nilFunc, .v (.pointer none), .v (.int .i32 0), .v (.int .i32 0)] := by kernel_rfl
theorem tf_196 : tflds Tryd.prog 196 = some [(0, 1, false), (1, 1, false), (2, 1, false), (3, 1, false), (4, 1, false), (5, 1, false), (6, 1, false), (7, 1, false), (8, 1, false), (9, 1, false), (10, 1, false)] := by kernel_rfl
theorem td_197 : tdat Tryd.prog 197 = some ⟨true, 11, 48, .agg #[.int .u64 0, .int .u64 0, .int .u32 0, .int .u8 0, .int .u8 0, .int .u8 0, .int .u8 0, .nilFunc, .pointer none, .int .i32 0, .int .i32 0]⟩ := by kernel_rfl
theorem zv_197 : ofV (.agg #[.int .u64 0, .int .u64 0, .int .u32 0, .int .u8 0, .int .u8 0, .int .u8 0, .int .u8 0, .nilFunc, .pointer none, .int .i32 0, .int .i32 0]) = .ag [.v (.int .u64 0), .v (.int .u64 0), .v (.int .u32 0), .v (.int .u8 0), .v (.int .u8 0), .v (.int .u8 0), .v (.int .u8 0), .v .nilFunc, .v (.pointer none), .v (.int .i32 0), .v (.int .i32 0)] := by kernel_rfl
theorem tf_197 : tflds Tryd.prog 197 = some [(0, 1, false), (1, 1, false), (2, 1, false), (3, 1, false), (4, 1, false), (5, 1, false), (6, 1, false), (7, 1, false), (8, 1, false), (9, 1, false), (10, 1, false)] := by kernel_rfl
theorem nk_198 : nkT Tryd.prog 198 = some .nkf := by kernel_rfl
theorem nk_199 : nkT Tryd.prog 199 = some .nkf := by kernel_rfl
theorem td_200 : tdat Tryd.prog 200 = some ⟨true, 2, 24, .agg #[.string ⟨#[]⟩, .int .u8 0]⟩ := by kernel_rfl
theorem zv_200 : ofV (.agg #[.string ⟨#[]⟩, .int .u8 0]) = .ag [.v (.string ⟨#[]⟩), .v (.int .u8 0)] := by kernel_rfl
theorem tf_200 : tflds Tryd.prog 200 = some [(0, 1, false), (1, 1, false)] := by kernel_rfl
theorem td_201 : tdat Tryd.prog 201 = some ⟨true, 2, 24, .agg #[.string ⟨#[]⟩, .int .u8 0]⟩ := by kernel_rfl
theorem zv_201 : ofV (.agg #[.string ⟨#[]⟩, .int .u8 0]) = .ag [.v (.string ⟨#[]⟩), .v (.int .u8 0)] := by kernel_rfl
theorem tf_201 : tflds Tryd.prog 201 = some [(0, 1, false), (1, 1, false)] := by kernel_rfl
theorem nk_202 : nkT Tryd.prog 202 = some .nkp := by kernel_rfl
theorem td_202 : tdat Tryd.prog 202 = some ⟨false, 1, 8, .pointer none⟩ := by kernel_rfl
theorem zv_202 : ofV (.pointer none) = .v (.pointer none) := by kernel_rfl
theorem nk_203 : nkT Tryd.prog 203 = some .nkf := by kernel_rfl
theorem td_204 : tdat Tryd.prog 204 = some ⟨false, 1, 2, .int .u16 0⟩ := by kernel_rfl
theorem zv_204 : ofV (.int .u16 0) = .v (.int .u16 0) := by kernel_rfl
theorem td_205 : tdat Tryd.prog 205 = some ⟨true, 5, 16, .agg #[.int .i32 0, .int .u16 0, .int .u16 0, .int .u32 0, .int .u32 0]⟩ := by kernel_rfl
theorem zv_205 : ofV (.agg #[.int .i32 0, .int .u16 0, .int .u16 0, .int .u32 0, .int .u32 0]) = .ag [.v (.int .i32 0), .v (.int .u16 0), .v (.int .u16 0), .v (.int .u32 0), .v (.int .u32 0)] := by kernel_rfl
theorem tf_205 : tflds Tryd.prog 205 = some [(0, 1, false), (1, 1, false), (2, 1, false), (3, 1, false), (4, 1, false)] := by kernel_rfl
theorem td_206 : tdat Tryd.prog 206 = some ⟨true, 5, 16, .agg #[.int .i32 0, .int .u16 0, .int .u16 0, .int .u32 0, .int .u32 0]⟩ := by kernel_rfl
theorem zv_206 : ofV (.agg #[.int .i32 0, .int .u16 0, .int .u16 0, .int .u32 0, .int .u32 0]) = .ag [.v (.int .i32 0), .v (.int .u16 0), .v (.int .u16 0), .v (.int .u32 0), .v (.int .u32 0)] := by kernel_rfl
theorem tf_206 : tflds Tryd.prog 206 = some [(0, 1, false), (1, 1, false), (2, 1, false), (3, 1, false), (4, 1, false)] := by kernel_rfl
theorem td_207 : tdat Tryd.prog 207 = some ⟨false, 1, 24, .slice none 0 0⟩ := by kernel_rfl
theorem zv_207 : ofV (.slice none 0 0) = .sl .full [] := by kernel_rfl
theorem tel_207 : tel Tryd.prog 207 = some 210 := by kernel_rfl
theorem td_208 : tdat Tryd.prog 208 = some ⟨false, 1, 4, .int .i32 0⟩ := by kernel_rfl
theorem zv_208 : ofV (.int .i32 0) = .v (.int .i32 0) := by kernel_rfl
theorem td_209 : tdat Tryd.prog 209 = some ⟨true, 4, 16, .agg #[.int .i32 0, .int .i32 0, .int .i32 0, .int .i32 0]⟩ := by kernel_rfl
theorem zv_209 : ofV (.agg #[.int .i32 0, .int .i32 0, .int .i32 0, .int .i32 0]) = .ag [.v (.int .i32 0), .v (.int .i32 0), .v (.int .i32 0), .v (.int .i32 0)] := by kernel_rfl
theorem tf_209 : tflds Tryd.prog 209 = some [(0, 1, false), (1, 1, false), (2, 1, false), (3, 1, false)] := by kernel_rfl
theorem td_210 : tdat Tryd.prog 210 = some ⟨true, 4, 16, .agg #[.int .i32 0, .int .i32 0, .int .i32 0, .int .i32 0]⟩ := by kernel_rfl
theorem zv_210 : ofV (.agg #[.int .i32 0, .int .i32 0, .int .i32 0, .int .i32 0]) = .ag [.v (.int .i32 0), .v (.int .i32 0), .v (.int .i32 0), .v (.int .i32 0)] := by kernel_rfl
theorem tf_210 : tflds Tryd.prog 210 = some [(0, 1, false), (1, 1, false), (2, 1, false), (3, 1, false)] := by kernel_rfl
end Go.Proofs.YticdboelpgalpaaDoor
