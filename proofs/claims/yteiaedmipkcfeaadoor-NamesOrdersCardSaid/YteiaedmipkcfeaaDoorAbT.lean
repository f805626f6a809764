/-
  Closed facts on the types of this seat.
-/
import Derived.Test.YteiaedmipkcfeaaDoorRows
import Derived.Test.YteiaedmipkcfeaaDoorAbFn
import Derived.KernelRfl
namespace Go.Proofs.YteiaedmipkcfeaaDoor
open Go Go.RowKit
theorem ok_mix : Tryd.prog.follows .mixedOrders = true := by kernel_rfl
theorem nk_1 : nkT Tryd.prog 1 = some .nkf := by kernel_rfl
theorem td_2 : tdat Tryd.prog 2 = some ⟨false, 1, 8, .int .i64 0⟩ := by kernel_rfl
theorem zv_2 : ofV (.int .i64 0) = .v (.int .i64 0) := by kernel_rfl
theorem td_3 : tdat Tryd.prog 3 = some ⟨false, 1, 8, .int .i64 0⟩ := by kernel_rfl
theorem zv_3 : ofV (.int .i64 0) = .v (.int .i64 0) := by kernel_rfl
theorem td_4 : tdat Tryd.prog 4 = some ⟨false, 1, 1, .bool false⟩ := by kernel_rfl
theorem zv_4 : ofV (.bool false) = .v (.bool false) := by kernel_rfl
theorem td_5 : tdat Tryd.prog 5 = some ⟨false, 1, 1, .int .u8 0⟩ := by kernel_rfl
theorem zv_5 : ofV (.int .u8 0) = .v (.int .u8 0) := by kernel_rfl
theorem td_6 : tdat Tryd.prog 6 = some ⟨false, 1, 1, .int .u8 0⟩ := by kernel_rfl
theorem zv_6 : ofV (.int .u8 0) = .v (.int .u8 0) := by kernel_rfl
theorem td_7 : tdat Tryd.prog 7 = some ⟨true, 4, 24, .agg #[.int .i64 0, .int .i64 0, .bool false, .int .u8 0]⟩ := by kernel_rfl
theorem zv_7 : ofV (.agg #[.int .i64 0, .int .i64 0, .bool false, .int .u8 0]) = .ag [.v (.int .i64 0), .v (.int .i64 0), .v (.bool false), .v (.int .u8 0)] := by kernel_rfl
theorem tf_7 : tflds Tryd.prog 7 = some [(0, 1, false), (1, 1, false), (2, 1, false), (3, 1, false)] := by kernel_rfl
theorem td_8 : tdat Tryd.prog 8 = some ⟨true, 4, 24, .agg #[.int .i64 0, .int .i64 0, .bool false, .int .u8 0]⟩ := by kernel_rfl
theorem zv_8 : ofV (.agg #[.int .i64 0, .int .i64 0, .bool false, .int .u8 0]) = .ag [.v (.int .i64 0), .v (.int .i64 0), .v (.bool false), .v (.int .u8 0)] := by kernel_rfl
theorem tf_8 : tflds Tryd.prog 8 = some [(0, 1, false), (1, 1, false), (2, 1, false), (3, 1, false)] := by kernel_rfl
theorem td_9 : tdat Tryd.prog 9 = some ⟨false, 1, 16, .string ⟨#[]⟩⟩ := by kernel_rfl
theorem zv_9 : ofV (.string ⟨#[]⟩) = .v (.string ⟨#[]⟩) := by kernel_rfl
theorem td_10 : tdat Tryd.prog 10 = some ⟨false, 1, 16, .string ⟨#[]⟩⟩ := by kernel_rfl
theorem zv_10 : ofV (.string ⟨#[]⟩) = .v (.string ⟨#[]⟩) := by kernel_rfl
theorem td_11 : tdat Tryd.prog 11 = some ⟨false, 1, 16, .string ⟨#[]⟩⟩ := by kernel_rfl
theorem zv_11 : ofV (.string ⟨#[]⟩) = .v (.string ⟨#[]⟩) := by kernel_rfl
theorem td_12 : tdat Tryd.prog 12 = some ⟨false, 1, 8, .int .u64 0⟩ := by kernel_rfl
theorem zv_12 : ofV (.int .u64 0) = .v (.int .u64 0) := by kernel_rfl
theorem td_13 : tdat Tryd.prog 13 = some ⟨true, 2, 24, .agg #[.string ⟨#[]⟩, .int .u64 0]⟩ := by kernel_rfl
theorem zv_13 : ofV (.agg #[.string ⟨#[]⟩, .int .u64 0]) = .ag [.v (.string ⟨#[]⟩), .v (.int .u64 0)] := by kernel_rfl
theorem tf_13 : tflds Tryd.prog 13 = some [(0, 1, false), (1, 1, false)] := by kernel_rfl
theorem td_14 : tdat Tryd.prog 14 = some ⟨true, 2, 24, .agg #[.string ⟨#[]⟩, .int .u64 0]⟩ := by kernel_rfl
theorem zv_14 : ofV (.agg #[.string ⟨#[]⟩, .int .u64 0]) = .ag [.v (.string ⟨#[]⟩), .v (.int .u64 0)] := by kernel_rfl
theorem tf_14 : tflds Tryd.prog 14 = some [(0, 1, false), (1, 1, false)] := by kernel_rfl
theorem nk_15 : nkT Tryd.prog 15 = some .nkp := by kernel_rfl
theorem td_15 : tdat Tryd.prog 15 = some ⟨false, 1, 8, .pointer none⟩ := by kernel_rfl
theorem zv_15 : ofV (.pointer none) = .v (.pointer none) := by kernel_rfl
theorem nk_16 : nkT Tryd.prog 16 = some .nkp := by kernel_rfl
theorem td_16 : tdat Tryd.prog 16 = some ⟨false, 1, 8, .pointer none⟩ := by kernel_rfl
theorem zv_16 : ofV (.pointer none) = .v (.pointer none) := by kernel_rfl
theorem nk_17 : nkT Tryd.prog 17 = some .nkp := by kernel_rfl
theorem td_17 : tdat Tryd.prog 17 = some ⟨false, 1, 8, .pointer none⟩ := by kernel_rfl
theorem zv_17 : ofV (.pointer none) = .v (.pointer none) := by kernel_rfl
theorem td_18 : tdat Tryd.prog 18 = some ⟨true, 1, 8, .agg #[.pointer none]⟩ := by kernel_rfl
theorem zv_18 : ofV (.agg #[.pointer none]) = .ag [.v (.pointer none)] := by kernel_rfl
theorem tf_18 : tflds Tryd.prog 18 = some [(0, 1, false)] := by kernel_rfl
theorem td_19 : tdat Tryd.prog 19 = some ⟨true, 1, 8, .agg #[.pointer none]⟩ := by kernel_rfl
theorem zv_19 : ofV (.agg #[.pointer none]) = .ag [.v (.pointer none)] := by kernel_rfl
theorem tf_19 : tflds Tryd.prog 19 = some [(0, 1, false)] := by kernel_rfl
theorem nk_20 : nkT Tryd.prog 20 = some .nki := by kernel_rfl
theorem td_20 : tdat Tryd.prog 20 = some ⟨false, 1, 16, .nilIface⟩ := by kernel_rfl
theorem zv_20 : ofV (.nilIface) = .v .nilIface := by kernel_rfl
theorem td_21 : tdat Tryd.prog 21 = some ⟨false, 1, 4, .int .i32 0⟩ := by kernel_rfl
theorem zv_21 : ofV (.int .i32 0) = .v (.int .i32 0) := by kernel_rfl
theorem td_22 : tdat Tryd.prog 22 = some ⟨false, 1, 24, .slice none 0 0⟩ := by kernel_rfl
theorem zv_22 : ofV (.slice none 0 0) = .sl .full [] := by kernel_rfl
theorem tel_22 : tel Tryd.prog 22 = some 5 := by kernel_rfl
theorem nk_23 : nkT Tryd.prog 23 = some .nkf := by kernel_rfl
theorem nk_24 : nkT Tryd.prog 24 = some .nki := by kernel_rfl
theorem td_24 : tdat Tryd.prog 24 = some ⟨false, 1, 16, .nilIface⟩ := by kernel_rfl
theorem zv_24 : ofV (.nilIface) = .v .nilIface := by kernel_rfl
theorem nk_25 : nkT Tryd.prog 25 = some .nki := by kernel_rfl
theorem td_25 : tdat Tryd.prog 25 = some ⟨false, 1, 16, .nilIface⟩ := by kernel_rfl
theorem zv_25 : ofV (.nilIface) = .v .nilIface := by kernel_rfl
theorem nk_26 : nkT Tryd.prog 26 = some .nkf := by kernel_rfl
theorem td_27 : tdat Tryd.prog 27 = some ⟨false, 1, 24, .slice none 0 0⟩ := by kernel_rfl
theorem zv_27 : ofV (.slice none 0 0) = .sl .full [] := by kernel_rfl
theorem tel_27 : tel Tryd.prog 27 = some 37 := by kernel_rfl
theorem td_28 : tdat Tryd.prog 28 = some ⟨false, 1, 24, .slice none 0 0⟩ := by kernel_rfl
theorem zv_28 : ofV (.slice none 0 0) = .sl .full [] := by kernel_rfl
theorem tel_28 : tel Tryd.prog 28 = some 53 := by kernel_rfl
theorem td_29 : tdat Tryd.prog 29 = some ⟨true, 2, 48, .agg #[.slice none 0 0, .slice none 0 0]⟩ := by kernel_rfl
theorem zv_29 : ofV (.agg #[.slice none 0 0, .slice none 0 0]) = .ag [.sl .full [], .sl .full []] := by kernel_rfl
theorem tf_29 : tflds Tryd.prog 29 = some [(0, 1, false), (1, 1, false)] := by kernel_rfl
theorem td_30 : tdat Tryd.prog 30 = some ⟨true, 2, 48, .agg #[.slice none 0 0, .slice none 0 0]⟩ := by kernel_rfl
theorem zv_30 : ofV (.agg #[.slice none 0 0, .slice none 0 0]) = .ag [.sl .full [], .sl .full []] := by kernel_rfl
theorem tf_30 : tflds Tryd.prog 30 = some [(0, 1, false), (1, 1, false)] := by kernel_rfl
theorem nk_31 : nkT Tryd.prog 31 = some .nkf := by kernel_rfl
theorem nk_32 : nkT Tryd.prog 32 = some .nkf := by kernel_rfl
theorem td_33 : tdat Tryd.prog 33 = some ⟨false, 1, 24, .slice none 0 0⟩ := by kernel_rfl
theorem zv_33 : ofV (.slice none 0 0) = .sl .full [] := by kernel_rfl
theorem tel_33 : tel Tryd.prog 33 = some 9 := by kernel_rfl
theorem td_34 : tdat Tryd.prog 34 = some ⟨true, 2, 16, .agg #[.int .i64 0, .int .i64 0]⟩ := by kernel_rfl
theorem zv_34 : ofV (.agg #[.int .i64 0, .int .i64 0]) = .ag [.v (.int .i64 0), .v (.int .i64 0)] := by kernel_rfl
theorem tf_34 : tflds Tryd.prog 34 = some [(0, 1, false), (1, 1, false)] := by kernel_rfl
theorem fl_34 : flat1 Tryd.prog 34 = some [.ski, .ski] := by kernel_rfl
theorem td_35 : tdat Tryd.prog 35 = some ⟨true, 2, 16, .agg #[.int .i64 0, .int .i64 0]⟩ := by kernel_rfl
theorem zv_35 : ofV (.agg #[.int .i64 0, .int .i64 0]) = .ag [.v (.int .i64 0), .v (.int .i64 0)] := by kernel_rfl
theorem tf_35 : tflds Tryd.prog 35 = some [(0, 1, false), (1, 1, false)] := by kernel_rfl
theorem fl_35 : flat1 Tryd.prog 35 = some [.ski, .ski] := by kernel_rfl
theorem td_36 : tdat Tryd.prog 36 = some ⟨true, 4, 56, .agg #[.string ⟨#[]⟩, .slice none 0 0, .int .i64 0, .int .i64 0]⟩ := by kernel_rfl
theorem zv_36 : ofV (.agg #[.string ⟨#[]⟩, .slice none 0 0, .int .i64 0, .int .i64 0]) = .ag [.v (.string ⟨#[]⟩), .sl .full [], .v (.int .i64 0), .v (.int .i64 0)] := by kernel_rfl
theorem tf_36 : tflds Tryd.prog 36 = some [(0, 1, false), (1, 1, false), (2, 2, true)] := by kernel_rfl
theorem td_37 : tdat Tryd.prog 37 = some ⟨true, 4, 56, .agg #[.string ⟨#[]⟩, .slice none 0 0, .int .i64 0, .int .i64 0]⟩ := by kernel_rfl
theorem zv_37 : ofV (.agg #[.string ⟨#[]⟩, .slice none 0 0, .int .i64 0, .int .i64 0]) = .ag [.v (.string ⟨#[]⟩), .sl .full [], .v (.int .i64 0), .v (.int .i64 0)] := by kernel_rfl
theorem tf_37 : tflds Tryd.prog 37 = some [(0, 1, false), (1, 1, false), (2, 2, true)] := by kernel_rfl
theorem nk_38 : nkT Tryd.prog 38 = some .nkf := by kernel_rfl
theorem td_39 : tdat Tryd.prog 39 = some ⟨false, 1, 8, .int .i64 0⟩ := by kernel_rfl
theorem zv_39 : ofV (.int .i64 0) = .v (.int .i64 0) := by kernel_rfl
theorem nk_41 : nkT Tryd.prog 41 = some .nkf := by kernel_rfl
theorem nk_42 : nkT Tryd.prog 42 = some .nkf := by kernel_rfl
theorem nk_43 : nkT Tryd.prog 43 = some .nkf := by kernel_rfl
theorem nk_44 : nkT Tryd.prog 44 = some .nkf := by kernel_rfl
theorem nk_45 : nkT Tryd.prog 45 = some .nkf := by kernel_rfl
theorem nk_46 : nkT Tryd.prog 46 = some .nkf := by kernel_rfl
theorem nk_47 : nkT Tryd.prog 47 = some .nkf := by kernel_rfl
theorem td_48 : tdat Tryd.prog 48 = some ⟨false, 1, 24, .slice none 0 0⟩ := by kernel_rfl
theorem zv_48 : ofV (.slice none 0 0) = .sl .full [] := by kernel_rfl
theorem tel_48 : tel Tryd.prog 48 = some 67 := by kernel_rfl
theorem td_49 : tdat Tryd.prog 49 = some ⟨false, 1, 24, .slice none 0 0⟩ := by kernel_rfl
theorem zv_49 : ofV (.slice none 0 0) = .sl .full [] := by kernel_rfl
theorem tel_49 : tel Tryd.prog 49 = some 62 := by kernel_rfl
theorem td_50 : tdat Tryd.prog 50 = some ⟨true, 2, 48, .agg #[.slice none 0 0, .slice none 0 0]⟩ := by kernel_rfl
theorem zv_50 : ofV (.agg #[.slice none 0 0, .slice none 0 0]) = .ag [.sl .full [], .sl .full []] := by kernel_rfl
theorem tf_50 : tflds Tryd.prog 50 = some [(0, 1, false), (1, 1, false)] := by kernel_rfl
theorem td_51 : tdat Tryd.prog 51 = some ⟨true, 2, 48, .agg #[.slice none 0 0, .slice none 0 0]⟩ := by kernel_rfl
theorem zv_51 : ofV (.agg #[.slice none 0 0, .slice none 0 0]) = .ag [.sl .full [], .sl .full []] := by kernel_rfl
theorem tf_51 : tflds Tryd.prog 51 = some [(0, 1, false), (1, 1, false)] := by kernel_rfl
theorem td_52 : tdat Tryd.prog 52 = some ⟨true, 7, 128, .agg #[.string ⟨#[]⟩, .slice none 0 0, .slice none 0 0, .slice none 0 0, .slice none 0 0, .int .i64 0, .int .i64 0]⟩ := by kernel_rfl
theorem zv_52 : ofV (.agg #[.string ⟨#[]⟩, .slice none 0 0, .slice none 0 0, .slice none 0 0, .slice none 0 0, .int .i64 0, .int .i64 0]) = .ag [.v (.string ⟨#[]⟩), .sl .full [], .sl .full [], .sl .full [], .sl .full [], .v (.int .i64 0), .v (.int .i64 0)] := by kernel_rfl
theorem tf_52 : tflds Tryd.prog 52 = some [(0, 1, false), (1, 1, false), (2, 1, false), (3, 2, true), (5, 2, true)] := by kernel_rfl
theorem td_53 : tdat Tryd.prog 53 = some ⟨true, 7, 128, .agg #[.string ⟨#[]⟩, .slice none 0 0, .slice none 0 0, .slice none 0 0, .slice none 0 0, .int .i64 0, .int .i64 0]⟩ := by kernel_rfl
theorem zv_53 : ofV (.agg #[.string ⟨#[]⟩, .slice none 0 0, .slice none 0 0, .slice none 0 0, .slice none 0 0, .int .i64 0, .int .i64 0]) = .ag [.v (.string ⟨#[]⟩), .sl .full [], .sl .full [], .sl .full [], .sl .full [], .v (.int .i64 0), .v (.int .i64 0)] := by kernel_rfl
theorem tf_53 : tflds Tryd.prog 53 = some [(0, 1, false), (1, 1, false), (2, 1, false), (3, 2, true), (5, 2, true)] := by kernel_rfl
theorem nk_54 : nkT Tryd.prog 54 = some .nkf := by kernel_rfl
theorem nk_55 : nkT Tryd.prog 55 = some .nkf := by kernel_rfl
theorem nk_56 : nkT Tryd.prog 56 = some .nkf := by kernel_rfl
theorem td_57 : tdat Tryd.prog 57 = some ⟨false, 1, 24, .slice none 0 0⟩ := by kernel_rfl
theorem zv_57 : ofV (.slice none 0 0) = .sl .full [] := by kernel_rfl
theorem tel_57 : tel Tryd.prog 57 = some 59 := by kernel_rfl
theorem td_58 : tdat Tryd.prog 58 = some ⟨true, 8, 88, .agg #[.int .u8 0, .int .u8 0, .int .i32 0, .string ⟨#[]⟩, .slice none 0 0, .slice none 0 0, .int .i64 0, .int .i64 0]⟩ := by kernel_rfl
theorem zv_58 : ofV (.agg #[.int .u8 0, .int .u8 0, .int .i32 0, .string ⟨#[]⟩, .slice none 0 0, .slice none 0 0, .int .i64 0, .int .i64 0]) = .ag [.v (.int .u8 0), .v (.int .u8 0), .v (.int .i32 0), .v (.string ⟨#[]⟩), .sl .full [], .sl .full [], .v (.int .i64 0), .v (.int .i64 0)] := by kernel_rfl
theorem tf_58 : tflds Tryd.prog 58 = some [(0, 1, false), (1, 1, false), (2, 1, false), (3, 1, false), (4, 1, false), (5, 1, false), (6, 2, true)] := by kernel_rfl
theorem td_59 : tdat Tryd.prog 59 = some ⟨true, 8, 88, .agg #[.int .u8 0, .int .u8 0, .int .i32 0, .string ⟨#[]⟩, .slice none 0 0, .slice none 0 0, .int .i64 0, .int .i64 0]⟩ := by kernel_rfl
theorem zv_59 : ofV (.agg #[.int .u8 0, .int .u8 0, .int .i32 0, .string ⟨#[]⟩, .slice none 0 0, .slice none 0 0, .int .i64 0, .int .i64 0]) = .ag [.v (.int .u8 0), .v (.int .u8 0), .v (.int .i32 0), .v (.string ⟨#[]⟩), .sl .full [], .sl .full [], .v (.int .i64 0), .v (.int .i64 0)] := by kernel_rfl
theorem tf_59 : tflds Tryd.prog 59 = some [(0, 1, false), (1, 1, false), (2, 1, false), (3, 1, false), (4, 1, false), (5, 1, false), (6, 2, true)] := by kernel_rfl
theorem td_60 : tdat Tryd.prog 60 = some ⟨false, 1, 24, .slice none 0 0⟩ := by kernel_rfl
theorem zv_60 : ofV (.slice none 0 0) = .sl .full [] := by kernel_rfl
theorem tel_60 : tel Tryd.prog 60 = some 122 := by kernel_rfl
theorem td_61 : tdat Tryd.prog 61 = some ⟨true, 16, 208, .agg #[.int .u8 0, .slice none 0 0, .string ⟨#[]⟩, .slice none 0 0, .bool false, .int .u8 0, .int .u8 0, .int .i32 0, .string ⟨#[]⟩, .slice none 0 0, .slice none 0 0, .int .i64 0, .int .i64 0, .slice none 0 0, .int .i64 0, .int .i64 0]⟩ := by kernel_rfl
theorem zv_61 : ofV (.agg #[.int .u8 0, .slice none 0 0, .string ⟨#[]⟩, .slice none 0 0, .bool false, .int .u8 0, .int .u8 0, .int .i32 0, .string ⟨#[]⟩, .slice none 0 0, .slice none 0 0, .int .i64 0, .int .i64 0, .slice none 0 0, .int .i64 0, .int .i64 0]) = .ag [.v (.int .u8 0), .sl .full [], .v (.string ⟨#[]⟩), .sl .full [], .v (.bool false), .v (.int .u8 0), .v (.int .u8 0), .v (.int .i32 0), .v (.string ⟨#[]⟩), .sl .full [], .sl .full [], .v (.int .i64 0), .v (.int .i64 0), .sl .full [], .v (.int .i64 0), .v (.int .i64 0)] := by kernel_rfl
theorem tf_61 : tflds Tryd.prog 61 = some [(0, 1, false), (1, 1, false), (2, 1, false), (3, 1, false), (4, 1, false), (5, 8, true), (13, 1, false), (14, 2, true)] := by kernel_rfl
theorem td_62 : tdat Tryd.prog 62 = some ⟨true, 16, 208, .agg #[.int .u8 0, .slice none 0 0, .string ⟨#[]⟩, .slice none 0 0, .bool false, .int .u8 0, .int .u8 0, .int .i32 0, .string ⟨#[]⟩, .slice none 0 0, .slice none 0 0, .int .i64 0, .int .i64 0, .slice none 0 0, .int .i64 0, .int .i64 0]⟩ := by kernel_rfl
theorem zv_62 : ofV (.agg #[.int .u8 0, .slice none 0 0, .string ⟨#[]⟩, .slice none 0 0, .bool false, .int .u8 0, .int .u8 0, .int .i32 0, .string ⟨#[]⟩, .slice none 0 0, .slice none 0 0, .int .i64 0, .int .i64 0, .slice none 0 0, .int .i64 0, .int .i64 0]) = .ag [.v (.int .u8 0), .sl .full [], .v (.string ⟨#[]⟩), .sl .full [], .v (.bool false), .v (.int .u8 0), .v (.int .u8 0), .v (.int .i32 0), .v (.string ⟨#[]⟩), .sl .full [], .sl .full [], .v (.int .i64 0), .v (.int .i64 0), .sl .full [], .v (.int .i64 0), .v (.int .i64 0)] := by kernel_rfl
theorem tf_62 : tflds Tryd.prog 62 = some [(0, 1, false), (1, 1, false), (2, 1, false), (3, 1, false), (4, 1, false), (5, 8, true), (13, 1, false), (14, 2, true)] := by kernel_rfl
theorem td_63 : tdat Tryd.prog 63 = some ⟨true, 2, 24, .agg #[.int .u8 0, .string ⟨#[]⟩]⟩ := by kernel_rfl
theorem zv_63 : ofV (.agg #[.int .u8 0, .string ⟨#[]⟩]) = .ag [.v (.int .u8 0), .v (.string ⟨#[]⟩)] := by kernel_rfl
theorem tf_63 : tflds Tryd.prog 63 = some [(0, 1, false), (1, 1, false)] := by kernel_rfl
theorem fl_63 : flat1 Tryd.prog 63 = some [.ski, .sks] := by kernel_rfl
theorem td_64 : tdat Tryd.prog 64 = some ⟨true, 2, 24, .agg #[.int .u8 0, .string ⟨#[]⟩]⟩ := by kernel_rfl
theorem zv_64 : ofV (.agg #[.int .u8 0, .string ⟨#[]⟩]) = .ag [.v (.int .u8 0), .v (.string ⟨#[]⟩)] := by kernel_rfl
theorem tf_64 : tflds Tryd.prog 64 = some [(0, 1, false), (1, 1, false)] := by kernel_rfl
theorem fl_64 : flat1 Tryd.prog 64 = some [.ski, .sks] := by kernel_rfl
theorem td_65 : tdat Tryd.prog 65 = some ⟨false, 1, 24, .slice none 0 0⟩ := by kernel_rfl
theorem zv_65 : ofV (.slice none 0 0) = .sl .full [] := by kernel_rfl
theorem tel_65 : tel Tryd.prog 65 = some 151 := by kernel_rfl
theorem td_66 : tdat Tryd.prog 66 = some ⟨true, 15, 176, .agg #[.string ⟨#[]⟩, .int .u8 0, .string ⟨#[]⟩, .slice none 0 0, .bool false, .int .u8 0, .int .u8 0, .int .i32 0, .string ⟨#[]⟩, .slice none 0 0, .slice none 0 0, .int .i64 0, .int .i64 0, .int .i64 0, .int .i64 0]⟩ := by kernel_rfl
theorem zv_66 : ofV (.agg #[.string ⟨#[]⟩, .int .u8 0, .string ⟨#[]⟩, .slice none 0 0, .bool false, .int .u8 0, .int .u8 0, .int .i32 0, .string ⟨#[]⟩, .slice none 0 0, .slice none 0 0, .int .i64 0, .int .i64 0, .int .i64 0, .int .i64 0]) = .ag [.v (.string ⟨#[]⟩), .v (.int .u8 0), .v (.string ⟨#[]⟩), .sl .full [], .v (.bool false), .v (.int .u8 0), .v (.int .u8 0), .v (.int .i32 0), .v (.string ⟨#[]⟩), .sl .full [], .sl .full [], .v (.int .i64 0), .v (.int .i64 0), .v (.int .i64 0), .v (.int .i64 0)] := by kernel_rfl
theorem tf_66 : tflds Tryd.prog 66 = some [(0, 1, false), (1, 2, true), (3, 1, false), (4, 1, false), (5, 8, true), (13, 2, true)] := by kernel_rfl
theorem td_67 : tdat Tryd.prog 67 = some ⟨true, 15, 176, .agg #[.string ⟨#[]⟩, .int .u8 0, .string ⟨#[]⟩, .slice none 0 0, .bool false, .int .u8 0, .int .u8 0, .int .i32 0, .string ⟨#[]⟩, .slice none 0 0, .slice none 0 0, .int .i64 0, .int .i64 0, .int .i64 0, .int .i64 0]⟩ := by kernel_rfl
theorem zv_67 : ofV (.agg #[.string ⟨#[]⟩, .int .u8 0, .string ⟨#[]⟩, .slice none 0 0, .bool false, .int .u8 0, .int .u8 0, .int .i32 0, .string ⟨#[]⟩, .slice none 0 0, .slice none 0 0, .int .i64 0, .int .i64 0, .int .i64 0, .int .i64 0]) = .ag [.v (.string ⟨#[]⟩), .v (.int .u8 0), .v (.string ⟨#[]⟩), .sl .full [], .v (.bool false), .v (.int .u8 0), .v (.int .u8 0), .v (.int .i32 0), .v (.string ⟨#[]⟩), .sl .full [], .sl .full [], .v (.int .i64 0), .v (.int .i64 0), .v (.int .i64 0), .v (.int .i64 0)] := by kernel_rfl
theorem tf_67 : tflds Tryd.prog 67 = some [(0, 1, false), (1, 2, true), (3, 1, false), (4, 1, false), (5, 8, true), (13, 2, true)] := by kernel_rfl
theorem td_68 : tdat Tryd.prog 68 = some ⟨true, 1, 16, .agg #[.nilIface]⟩ := by kernel_rfl
theorem zv_68 : ofV (.agg #[.nilIface]) = .ag [.v .nilIface] := by kernel_rfl
theorem tf_68 : tflds Tryd.prog 68 = some [(0, 1, false)] := by kernel_rfl
theorem td_69 : tdat Tryd.prog 69 = some ⟨true, 1, 16, .agg #[.nilIface]⟩ := by kernel_rfl
theorem zv_69 : ofV (.agg #[.nilIface]) = .ag [.v .nilIface] := by kernel_rfl
theorem tf_69 : tflds Tryd.prog 69 = some [(0, 1, false)] := by kernel_rfl
theorem nk_70 : nkT Tryd.prog 70 = some .nkp := by kernel_rfl
theorem td_70 : tdat Tryd.prog 70 = some ⟨false, 1, 8, .pointer none⟩ := by kernel_rfl
theorem zv_70 : ofV (.pointer none) = .v (.pointer none) := by kernel_rfl
theorem td_71 : tdat Tryd.prog 71 = some ⟨true, 2, 48, .agg #[.slice none 0 0, .slice none 0 0]⟩ := by kernel_rfl
theorem zv_71 : ofV (.agg #[.slice none 0 0, .slice none 0 0]) = .ag [.sl .full [], .sl .full []] := by kernel_rfl
theorem tf_71 : tflds Tryd.prog 71 = some [(0, 2, true)] := by kernel_rfl
theorem td_72 : tdat Tryd.prog 72 = some ⟨true, 2, 48, .agg #[.slice none 0 0, .slice none 0 0]⟩ := by kernel_rfl
theorem zv_72 : ofV (.agg #[.slice none 0 0, .slice none 0 0]) = .ag [.sl .full [], .sl .full []] := by kernel_rfl
theorem tf_72 : tflds Tryd.prog 72 = some [(0, 2, true)] := by kernel_rfl
theorem nk_73 : nkT Tryd.prog 73 = some .nkf := by kernel_rfl
theorem nk_74 : nkT Tryd.prog 74 = some .nkf := by kernel_rfl
theorem nk_75 : nkT Tryd.prog 75 = some .nkf := by kernel_rfl
theorem nk_76 : nkT Tryd.prog 76 = some .nkp := by kernel_rfl
theorem td_76 : tdat Tryd.prog 76 = some ⟨false, 1, 8, .pointer none⟩ := by kernel_rfl
theorem zv_76 : ofV (.pointer none) = .v (.pointer none) := by kernel_rfl
theorem td_77 : tdat Tryd.prog 77 = some ⟨true, 2, 32, .agg #[.slice none 0 0, .int .i64 0]⟩ := by kernel_rfl
theorem zv_77 : ofV (.agg #[.slice none 0 0, .int .i64 0]) = .ag [.sl .full [], .v (.int .i64 0)] := by kernel_rfl
theorem tf_77 : tflds Tryd.prog 77 = some [(0, 1, false), (1, 1, false)] := by kernel_rfl
theorem td_78 : tdat Tryd.prog 78 = some ⟨true, 2, 32, .agg #[.slice none 0 0, .int .i64 0]⟩ := by kernel_rfl
theorem zv_78 : ofV (.agg #[.slice none 0 0, .int .i64 0]) = .ag [.sl .full [], .v (.int .i64 0)] := by kernel_rfl
theorem tf_78 : tflds Tryd.prog 78 = some [(0, 1, false), (1, 1, false)] := by kernel_rfl
theorem nk_79 : nkT Tryd.prog 79 = some .nkf := by kernel_rfl
theorem nk_80 : nkT Tryd.prog 80 = some .nkp := by kernel_rfl
theorem td_80 : tdat Tryd.prog 80 = some ⟨false, 1, 8, .pointer none⟩ := by kernel_rfl
theorem zv_80 : ofV (.pointer none) = .v (.pointer none) := by kernel_rfl
theorem td_81 : tdat Tryd.prog 81 = some ⟨true, 5, 40, .agg #[.pointer none, .int .i64 0, .int .i64 0, .int .i64 0, .bool false]⟩ := by kernel_rfl
theorem zv_81 : ofV (.agg #[.pointer none, .int .i64 0, .int .i64 0, .int .i64 0, .bool false]) = .ag [.v (.pointer none), .v (.int .i64 0), .v (.int .i64 0), .v (.int .i64 0), .v (.bool false)] := by kernel_rfl
theorem tf_81 : tflds Tryd.prog 81 = some [(0, 1, false), (1, 1, false), (2, 1, false), (3, 1, false), (4, 1, false)] := by kernel_rfl
theorem td_82 : tdat Tryd.prog 82 = some ⟨true, 5, 40, .agg #[.pointer none, .int .i64 0, .int .i64 0, .int .i64 0, .bool false]⟩ := by kernel_rfl
theorem zv_82 : ofV (.agg #[.pointer none, .int .i64 0, .int .i64 0, .int .i64 0, .bool false]) = .ag [.v (.pointer none), .v (.int .i64 0), .v (.int .i64 0), .v (.int .i64 0), .v (.bool false)] := by kernel_rfl
theorem tf_82 : tflds Tryd.prog 82 = some [(0, 1, false), (1, 1, false), (2, 1, false), (3, 1, false), (4, 1, false)] := by kernel_rfl
theorem nk_83 : nkT Tryd.prog 83 = some .nkf := by kernel_rfl
theorem nk_84 : nkT Tryd.prog 84 = some .nkp := by kernel_rfl
theorem td_84 : tdat Tryd.prog 84 = some ⟨false, 1, 8, .pointer none⟩ := by kernel_rfl
theorem zv_84 : ofV (.pointer none) = .v (.pointer none) := by kernel_rfl
theorem td_85 : tdat Tryd.prog 85 = some ⟨true, 1, 8, .agg #[.int .i64 0]⟩ := by kernel_rfl
theorem zv_85 : ofV (.agg #[.int .i64 0]) = .ag [.v (.int .i64 0)] := by kernel_rfl
theorem tf_85 : tflds Tryd.prog 85 = some [(0, 1, false)] := by kernel_rfl
theorem fl_85 : flat1 Tryd.prog 85 = some [.ski] := by kernel_rfl
theorem td_86 : tdat Tryd.prog 86 = some ⟨true, 1, 8, .agg #[.int .i64 0]⟩ := by kernel_rfl
theorem zv_86 : ofV (.agg #[.int .i64 0]) = .ag [.v (.int .i64 0)] := by kernel_rfl
theorem tf_86 : tflds Tryd.prog 86 = some [(0, 1, false)] := by kernel_rfl
theorem fl_86 : flat1 Tryd.prog 86 = some [.ski] := by kernel_rfl
theorem nk_87 : nkT Tryd.prog 87 = some .nkf := by kernel_rfl
theorem nk_88 : nkT Tryd.prog 88 = some .nkf := by kernel_rfl
theorem nk_89 : nkT Tryd.prog 89 = some .nkf := by kernel_rfl
theorem nk_90 : nkT Tryd.prog 90 = some .nkp := by kernel_rfl
theorem td_90 : tdat Tryd.prog 90 = some ⟨false, 1, 8, .pointer none⟩ := by kernel_rfl
theorem zv_90 : ofV (.pointer none) = .v (.pointer none) := by kernel_rfl
theorem td_91 : tdat Tryd.prog 91 = some ⟨true, 5, 72, .agg #[.slice none 0 0, .slice none 0 0, .int .i64 0, .int .i64 0, .int .i64 0]⟩ := by kernel_rfl
theorem zv_91 : ofV (.agg #[.slice none 0 0, .slice none 0 0, .int .i64 0, .int .i64 0, .int .i64 0]) = .ag [.sl .full [], .sl .full [], .v (.int .i64 0), .v (.int .i64 0), .v (.int .i64 0)] := by kernel_rfl
theorem tf_91 : tflds Tryd.prog 91 = some [(0, 2, true), (2, 1, false), (3, 2, true)] := by kernel_rfl
theorem td_92 : tdat Tryd.prog 92 = some ⟨true, 5, 72, .agg #[.slice none 0 0, .slice none 0 0, .int .i64 0, .int .i64 0, .int .i64 0]⟩ := by kernel_rfl
theorem zv_92 : ofV (.agg #[.slice none 0 0, .slice none 0 0, .int .i64 0, .int .i64 0, .int .i64 0]) = .ag [.sl .full [], .sl .full [], .v (.int .i64 0), .v (.int .i64 0), .v (.int .i64 0)] := by kernel_rfl
theorem tf_92 : tflds Tryd.prog 92 = some [(0, 2, true), (2, 1, false), (3, 2, true)] := by kernel_rfl
theorem nk_93 : nkT Tryd.prog 93 = some .nkf := by kernel_rfl
theorem nk_94 : nkT Tryd.prog 94 = some .nkp := by kernel_rfl
theorem td_94 : tdat Tryd.prog 94 = some ⟨false, 1, 8, .pointer none⟩ := by kernel_rfl
theorem zv_94 : ofV (.pointer none) = .v (.pointer none) := by kernel_rfl
theorem nk_95 : nkT Tryd.prog 95 = some .nkf := by kernel_rfl
theorem nk_96 : nkT Tryd.prog 96 = some .nkp := by kernel_rfl
theorem td_96 : tdat Tryd.prog 96 = some ⟨false, 1, 8, .pointer none⟩ := by kernel_rfl
theorem zv_96 : ofV (.pointer none) = .v (.pointer none) := by kernel_rfl
theorem td_97 : tdat Tryd.prog 97 = some ⟨true, 5, 56, .agg #[.int .i64 0, .int .i64 0, .string ⟨#[]⟩, .bool false, .nilIface]⟩ := by kernel_rfl
theorem zv_97 : ofV (.agg #[.int .i64 0, .int .i64 0, .string ⟨#[]⟩, .bool false, .nilIface]) = .ag [.v (.int .i64 0), .v (.int .i64 0), .v (.string ⟨#[]⟩), .v (.bool false), .v .nilIface] := by kernel_rfl
theorem tf_97 : tflds Tryd.prog 97 = some [(0, 2, true), (2, 1, false), (3, 1, false), (4, 1, false)] := by kernel_rfl
theorem td_98 : tdat Tryd.prog 98 = some ⟨true, 5, 56, .agg #[.int .i64 0, .int .i64 0, .string ⟨#[]⟩, .bool false, .nilIface]⟩ := by kernel_rfl
theorem zv_98 : ofV (.agg #[.int .i64 0, .int .i64 0, .string ⟨#[]⟩, .bool false, .nilIface]) = .ag [.v (.int .i64 0), .v (.int .i64 0), .v (.string ⟨#[]⟩), .v (.bool false), .v .nilIface] := by kernel_rfl
theorem tf_98 : tflds Tryd.prog 98 = some [(0, 2, true), (2, 1, false), (3, 1, false), (4, 1, false)] := by kernel_rfl
theorem nk_99 : nkT Tryd.prog 99 = some .nkf := by kernel_rfl
theorem nk_100 : nkT Tryd.prog 100 = some .nkf := by kernel_rfl
theorem nk_101 : nkT Tryd.prog 101 = some .nkf := by kernel_rfl
theorem nk_102 : nkT Tryd.prog 102 = some .nkf := by kernel_rfl
theorem nk_103 : nkT Tryd.prog 103 = some .nkf := by kernel_rfl
theorem nk_104 : nkT Tryd.prog 104 = some .nkf := by kernel_rfl
theorem nk_105 : nkT Tryd.prog 105 = some .nkf := by kernel_rfl
theorem nk_106 : nkT Tryd.prog 106 = some .nkf := by kernel_rfl
theorem td_107 : tdat Tryd.prog 107 = some ⟨true, 2, 48, .agg #[.slice none 0 0, .slice none 0 0]⟩ := by kernel_rfl
theorem zv_107 : ofV (.agg #[.slice none 0 0, .slice none 0 0]) = .ag [.sl .full [], .sl .full []] := by kernel_rfl
theorem tf_107 : tflds Tryd.prog 107 = some [(0, 1, false), (1, 1, false)] := by kernel_rfl
theorem td_108 : tdat Tryd.prog 108 = some ⟨true, 2, 48, .agg #[.slice none 0 0, .slice none 0 0]⟩ := by kernel_rfl
theorem zv_108 : ofV (.agg #[.slice none 0 0, .slice none 0 0]) = .ag [.sl .full [], .sl .full []] := by kernel_rfl
theorem tf_108 : tflds Tryd.prog 108 = some [(0, 1, false), (1, 1, false)] := by kernel_rfl
theorem nk_109 : nkT Tryd.prog 109 = some .nkf := by kernel_rfl
theorem nk_110 : nkT Tryd.prog 110 = some .nkf := by kernel_rfl
theorem nk_111 : nkT Tryd.prog 111 = some .nkf := by kernel_rfl
theorem nk_112 : nkT Tryd.prog 112 = some .nkf := by kernel_rfl
theorem nk_113 : nkT Tryd.prog 113 = some .nkf := by kernel_rfl
theorem nk_114 : nkT Tryd.prog 114 = some .nkf := by kernel_rfl
theorem nk_115 : nkT Tryd.prog 115 = some .nkf := by kernel_rfl
theorem td_116 : tdat Tryd.prog 116 = some ⟨true, 3, 72, .agg #[.slice none 0 0, .slice none 0 0, .slice none 0 0]⟩ := by kernel_rfl
theorem zv_116 : ofV (.agg #[.slice none 0 0, .slice none 0 0, .slice none 0 0]) = .ag [.sl .full [], .sl .full [], .sl .full []] := by kernel_rfl
theorem tf_116 : tflds Tryd.prog 116 = some [(0, 1, false), (1, 1, false), (2, 1, false)] := by kernel_rfl
theorem td_117 : tdat Tryd.prog 117 = some ⟨true, 3, 72, .agg #[.slice none 0 0, .slice none 0 0, .slice none 0 0]⟩ := by kernel_rfl
theorem zv_117 : ofV (.agg #[.slice none 0 0, .slice none 0 0, .slice none 0 0]) = .ag [.sl .full [], .sl .full [], .sl .full []] := by kernel_rfl
theorem tf_117 : tflds Tryd.prog 117 = some [(0, 1, false), (1, 1, false), (2, 1, false)] := by kernel_rfl
theorem nk_118 : nkT Tryd.prog 118 = some .nkf := by kernel_rfl
theorem nk_119 : nkT Tryd.prog 119 = some .nkf := by kernel_rfl
theorem td_120 : tdat Tryd.prog 120 = some ⟨false, 1, 24, .slice none 0 0⟩ := by kernel_rfl
theorem zv_120 : ofV (.slice none 0 0) = .sl .full [] := by kernel_rfl
theorem tel_120 : tel Tryd.prog 120 = some 160 := by kernel_rfl
theorem td_121 : tdat Tryd.prog 121 = some ⟨true, 7, 128, .agg #[.string ⟨#[]⟩, .slice none 0 0, .slice none 0 0, .slice none 0 0, .slice none 0 0, .int .i64 0, .int .i64 0]⟩ := by kernel_rfl
theorem zv_121 : ofV (.agg #[.string ⟨#[]⟩, .slice none 0 0, .slice none 0 0, .slice none 0 0, .slice none 0 0, .int .i64 0, .int .i64 0]) = .ag [.v (.string ⟨#[]⟩), .sl .full [], .sl .full [], .sl .full [], .sl .full [], .v (.int .i64 0), .v (.int .i64 0)] := by kernel_rfl
theorem tf_121 : tflds Tryd.prog 121 = some [(0, 1, false), (1, 2, true), (3, 1, false), (4, 1, false), (5, 2, true)] := by kernel_rfl
theorem td_122 : tdat Tryd.prog 122 = some ⟨true, 7, 128, .agg #[.string ⟨#[]⟩, .slice none 0 0, .slice none 0 0, .slice none 0 0, .slice none 0 0, .int .i64 0, .int .i64 0]⟩ := by kernel_rfl
theorem zv_122 : ofV (.agg #[.string ⟨#[]⟩, .slice none 0 0, .slice none 0 0, .slice none 0 0, .slice none 0 0, .int .i64 0, .int .i64 0]) = .ag [.v (.string ⟨#[]⟩), .sl .full [], .sl .full [], .sl .full [], .sl .full [], .v (.int .i64 0), .v (.int .i64 0)] := by kernel_rfl
theorem tf_122 : tflds Tryd.prog 122 = some [(0, 1, false), (1, 2, true), (3, 1, false), (4, 1, false), (5, 2, true)] := by kernel_rfl
theorem nk_123 : nkT Tryd.prog 123 = some .nkf := by kernel_rfl
theorem nk_124 : nkT Tryd.prog 124 = some .nkf := by kernel_rfl
theorem nk_125 : nkT Tryd.prog 125 = some .nkf := by kernel_rfl
theorem nk_126 : nkT Tryd.prog 126 = some .nki := by kernel_rfl
theorem td_126 : tdat Tryd.prog 126 = some ⟨false, 1, 16, .nilIface⟩ := by kernel_rfl
theorem zv_126 : ofV (.nilIface) = .v .nilIface := by kernel_rfl
theorem nk_127 : nkT Tryd.prog 127 = some .nki := by kernel_rfl
theorem td_127 : tdat Tryd.prog 127 = some ⟨false, 1, 16, .nilIface⟩ := by kernel_rfl
theorem zv_127 : ofV (.nilIface) = .v .nilIface := by kernel_rfl
theorem nk_128 : nkT Tryd.prog 128 = some .nkf := by kernel_rfl
theorem nk_129 : nkT Tryd.prog 129 = some .nkf := by kernel_rfl
theorem td_130 : tdat Tryd.prog 130 = some ⟨false, 1, 8, .pointer none⟩ := by kernel_rfl
theorem zv_130 : ofV (.pointer none) = .v (.pointer none) := by kernel_rfl
theorem td_131 : tdat Tryd.prog 131 = some ⟨false, 1, 8, .int .u64 0⟩ := by kernel_rfl
theorem zv_131 : ofV (.int .u64 0) = .v (.int .u64 0) := by kernel_rfl
theorem td_132 : tdat Tryd.prog 132 = some ⟨true, 3, 24, .agg #[.pointer none, .pointer none, .int .u64 0]⟩ := by kernel_rfl
theorem zv_132 : ofV (.agg #[.pointer none, .pointer none, .int .u64 0]) = .ag [.v (.pointer none), .v (.pointer none), .v (.int .u64 0)] := by kernel_rfl
theorem tf_132 : tflds Tryd.prog 132 = some [(0, 1, false), (1, 1, false), (2, 1, false)] := by kernel_rfl
theorem td_133 : tdat Tryd.prog 133 = some ⟨true, 3, 24, .agg #[.pointer none, .pointer none, .int .u64 0]⟩ := by kernel_rfl
theorem zv_133 : ofV (.agg #[.pointer none, .pointer none, .int .u64 0]) = .ag [.v (.pointer none), .v (.pointer none), .v (.int .u64 0)] := by kernel_rfl
theorem tf_133 : tflds Tryd.prog 133 = some [(0, 1, false), (1, 1, false), (2, 1, false)] := by kernel_rfl
theorem nk_134 : nkT Tryd.prog 134 = some .nkf := by kernel_rfl
theorem nk_135 : nkT Tryd.prog 135 = some .nkf := by kernel_rfl
theorem td_136 : tdat Tryd.prog 136 = some ⟨false, 1, 1, .int .u8 0⟩ := by kernel_rfl
theorem zv_136 : ofV (.int .u8 0) = .v (.int .u8 0) := by kernel_rfl
theorem nk_137 : nkT Tryd.prog 137 = some .nkf := by kernel_rfl
theorem nk_138 : nkT Tryd.prog 138 = some .nkf := by kernel_rfl
theorem nk_139 : nkT Tryd.prog 139 = some .nkf := by kernel_rfl
theorem nk_140 : nkT Tryd.prog 140 = some .nkf := by kernel_rfl
theorem nk_141 : nkT Tryd.prog 141 = some .nkf := by kernel_rfl
theorem nk_142 : nkT Tryd.prog 142 = some .nkf := by kernel_rfl
theorem nk_143 : nkT Tryd.prog 143 = some .nkf := by kernel_rfl
theorem td_144 : tdat Tryd.prog 144 = some ⟨false, 1, 24, .slice none 0 0⟩ := by kernel_rfl
theorem zv_144 : ofV (.slice none 0 0) = .sl .full [] := by kernel_rfl
theorem tel_144 : tel Tryd.prog 144 = some 48 := by kernel_rfl
theorem nk_145 : nkT Tryd.prog 145 = some .nkf := by kernel_rfl
theorem nk_146 : nkT Tryd.prog 146 = some .nkf := by kernel_rfl
theorem nk_147 : nkT Tryd.prog 147 = some .nkf := by kernel_rfl
theorem nk_148 : nkT Tryd.prog 148 = some .nkf := by kernel_rfl
theorem nk_149 : nkT Tryd.prog 149 = some .nkf := by kernel_rfl
theorem td_150 : tdat Tryd.prog 150 = some ⟨true, 2, 32, .agg #[.string ⟨#[]⟩, .string ⟨#[]⟩]⟩ := by kernel_rfl
theorem zv_150 : ofV (.agg #[.string ⟨#[]⟩, .string ⟨#[]⟩]) = .ag [.v (.string ⟨#[]⟩), .v (.string ⟨#[]⟩)] := by kernel_rfl
theorem tf_150 : tflds Tryd.prog 150 = some [(0, 1, false), (1, 1, false)] := by kernel_rfl
theorem fl_150 : flat1 Tryd.prog 150 = some [.sks, .sks] := by kernel_rfl
theorem td_151 : tdat Tryd.prog 151 = some ⟨true, 2, 32, .agg #[.string ⟨#[]⟩, .string ⟨#[]⟩]⟩ := by kernel_rfl
theorem zv_151 : ofV (.agg #[.string ⟨#[]⟩, .string ⟨#[]⟩]) = .ag [.v (.string ⟨#[]⟩), .v (.string ⟨#[]⟩)] := by kernel_rfl
theorem tf_151 : tflds Tryd.prog 151 = some [(0, 1, false), (1, 1, false)] := by kernel_rfl
theorem fl_151 : flat1 Tryd.prog 151 = some [.sks, .sks] := by kernel_rfl
theorem nk_152 : nkT Tryd.prog 152 = some .nkf := by kernel_rfl
theorem td_153 : tdat Tryd.prog 153 = some ⟨false, 1, 24, .slice none 0 0⟩ := by kernel_rfl
theorem zv_153 : ofV (.slice none 0 0) = .sl .full [] := by kernel_rfl
theorem tel_153 : tel Tryd.prog 153 = some 21 := by kernel_rfl
theorem nk_154 : nkT Tryd.prog 154 = some .nkf := by kernel_rfl
theorem nk_155 : nkT Tryd.prog 155 = some .nkf := by kernel_rfl
theorem nk_157 : nkT Tryd.prog 157 = some .nkf := by kernel_rfl
theorem nk_158 : nkT Tryd.prog 158 = some .nkf := by kernel_rfl
theorem td_159 : tdat Tryd.prog 159 = some ⟨true, 12, 128, .agg #[.int .u8 0, .int .u8 0, .int .i32 0, .string ⟨#[]⟩, .slice none 0 0, .slice none 0 0, .int .i64 0, .int .i64 0, .string ⟨#[]⟩, .bool false, .int .i64 0, .int .i64 0]⟩ := by kernel_rfl
theorem zv_159 : ofV (.agg #[.int .u8 0, .int .u8 0, .int .i32 0, .string ⟨#[]⟩, .slice none 0 0, .slice none 0 0, .int .i64 0, .int .i64 0, .string ⟨#[]⟩, .bool false, .int .i64 0, .int .i64 0]) = .ag [.v (.int .u8 0), .v (.int .u8 0), .v (.int .i32 0), .v (.string ⟨#[]⟩), .sl .full [], .sl .full [], .v (.int .i64 0), .v (.int .i64 0), .v (.string ⟨#[]⟩), .v (.bool false), .v (.int .i64 0), .v (.int .i64 0)] := by kernel_rfl
theorem tf_159 : tflds Tryd.prog 159 = some [(0, 8, true), (8, 1, false), (9, 1, false), (10, 2, true)] := by kernel_rfl
theorem td_160 : tdat Tryd.prog 160 = some ⟨true, 12, 128, .agg #[.int .u8 0, .int .u8 0, .int .i32 0, .string ⟨#[]⟩, .slice none 0 0, .slice none 0 0, .int .i64 0, .int .i64 0, .string ⟨#[]⟩, .bool false, .int .i64 0, .int .i64 0]⟩ := by kernel_rfl
theorem zv_160 : ofV (.agg #[.int .u8 0, .int .u8 0, .int .i32 0, .string ⟨#[]⟩, .slice none 0 0, .slice none 0 0, .int .i64 0, .int .i64 0, .string ⟨#[]⟩, .bool false, .int .i64 0, .int .i64 0]) = .ag [.v (.int .u8 0), .v (.int .u8 0), .v (.int .i32 0), .v (.string ⟨#[]⟩), .sl .full [], .sl .full [], .v (.int .i64 0), .v (.int .i64 0), .v (.string ⟨#[]⟩), .v (.bool false), .v (.int .i64 0), .v (.int .i64 0)] := by kernel_rfl
theorem tf_160 : tflds Tryd.prog 160 = some [(0, 8, true), (8, 1, false), (9, 1, false), (10, 2, true)] := by kernel_rfl
theorem nk_161 : nkT Tryd.prog 161 = some .nkf := by kernel_rfl
theorem nk_162 : nkT Tryd.prog 162 = some .nkf := by kernel_rfl
theorem nk_163 : nkT Tryd.prog 163 = some .nkf := by kernel_rfl
theorem td_164 : tdat Tryd.prog 164 = some ⟨true, 1, 8, .agg #[.pointer none]⟩ := by kernel_rfl
theorem zv_164 : ofV (.agg #[.pointer none]) = .ag [.v (.pointer none)] := by kernel_rfl
theorem tf_164 : tflds Tryd.prog 164 = some [(0, 1, false)] := by kernel_rfl
theorem td_165 : tdat Tryd.prog 165 = some ⟨true, 1, 8, .agg #[.pointer none]⟩ := by kernel_rfl
theorem zv_165 : ofV (.agg #[.pointer none]) = .ag [.v (.pointer none)] := by kernel_rfl
theorem tf_165 : tflds Tryd.prog 165 = some [(0, 1, false)] := by kernel_rfl
theorem nk_166 : nkT Tryd.prog 166 = some .nkp := by kernel_rfl
theorem td_166 : tdat Tryd.prog 166 = some ⟨false, 1, 8, .pointer none⟩ := by kernel_rfl
theorem zv_166 : ofV (.pointer none) = .v (.pointer none) := by kernel_rfl
theorem nk_167 : nkT Tryd.prog 167 = some .nki := by kernel_rfl
theorem td_167 : tdat Tryd.prog 167 = some ⟨false, 1, 16, .nilIface⟩ := by kernel_rfl
theorem zv_167 : ofV (.nilIface) = .v .nilIface := by kernel_rfl
theorem nk_169 : nkT Tryd.prog 169 = some .nkf := by kernel_rfl
theorem nk_170 : nkT Tryd.prog 170 = some .nki := by kernel_rfl
theorem td_170 : tdat Tryd.prog 170 = some ⟨false, 1, 16, .nilIface⟩ := by kernel_rfl
theorem zv_170 : ofV (.nilIface) = .v .nilIface := by kernel_rfl
theorem nk_171 : nkT Tryd.prog 171 = some .nkf := by kernel_rfl
theorem nk_172 : nkT Tryd.prog 172 = some .nki := by kernel_rfl
theorem td_172 : tdat Tryd.prog 172 = some ⟨false, 1, 16, .nilIface⟩ := by kernel_rfl
theorem zv_172 : ofV (.nilIface) = .v .nilIface := by kernel_rfl
theorem td_173 : tdat Tryd.prog 173 = some ⟨false, 1, 24, .slice none 0 0⟩ := by kernel_rfl
theorem zv_173 : ofV (.slice none 0 0) = .sl .full [] := by kernel_rfl
theorem tel_173 : tel Tryd.prog 173 = some 25 := by kernel_rfl
theorem nk_174 : nkT Tryd.prog 174 = some .nkf := by kernel_rfl
theorem nk_175 : nkT Tryd.prog 175 = some .nkf := by kernel_rfl
theorem nk_176 : nkT Tryd.prog 176 = some .nkf := by kernel_rfl
theorem nk_177 : nkT Tryd.prog 177 = some .nki := by kernel_rfl
theorem td_177 : tdat Tryd.prog 177 = some ⟨false, 1, 16, .nilIface⟩ := by kernel_rfl
theorem zv_177 : ofV (.nilIface) = .v .nilIface := by kernel_rfl
theorem nk_179 : nkT Tryd.prog 179 = some .nkf := by kernel_rfl
theorem nk_180 : nkT Tryd.prog 180 = some .nkf := by kernel_rfl
theorem nk_181 : nkT Tryd.prog 181 = some .nkf := by kernel_rfl
theorem nk_182 : nkT Tryd.prog 182 = some .nkf := by kernel_rfl
theorem nk_183 : nkT Tryd.prog 183 = some .nkf := by kernel_rfl
theorem nk_185 : nkT Tryd.prog 185 = some .nkf := by kernel_rfl
theorem td_186 : tdat Tryd.prog 186 = some ⟨false, 1, 24, .slice none 0 0⟩ := by kernel_rfl
theorem zv_186 : ofV (.slice none 0 0) = .sl .full [] := by kernel_rfl
theorem tel_186 : tel Tryd.prog 186 = some 33 := by kernel_rfl
theorem nk_187 : nkT Tryd.prog 187 = some .nkf := by kernel_rfl
theorem nk_188 : nkT Tryd.prog 188 = some .nkf := by kernel_rfl
theorem nk_189 : nkT Tryd.prog 189 = some .nkf := by kernel_rfl
theorem nk_190 : nkT Tryd.prog 190 = some .nkf := by kernel_rfl
theorem nk_191 : nkT Tryd.prog 191 = some .nkf := by kernel_rfl
theorem nk_192 : nkT Tryd.prog 192 = some .nkf := by kernel_rfl
theorem nk_194 : nkT Tryd.prog 194 = some .nkf := by kernel_rfl
theorem nk_195 : nkT Tryd.prog 195 = some .nkf := by kernel_rfl
theorem nk_196 : nkT Tryd.prog 196 = some .nkf := by kernel_rfl
theorem td_197 : tdat Tryd.prog 197 = some ⟨true, 4, 40, .agg #[.pointer none, .pointer none, .pointer none, .string ⟨#[]⟩]⟩ := by kernel_rfl
theorem zv_197 : ofV (.agg #[.pointer none, .pointer none, .pointer none, .string ⟨#[]⟩]) = .ag [.v (.pointer none), .v (.pointer none), .v (.pointer none), .v (.string ⟨#[]⟩)] := by kernel_rfl
theorem tf_197 : tflds Tryd.prog 197 = some [(0, 1, false), (1, 1, false), (2, 1, false), (3, 1, false)] := by kernel_rfl
theorem td_198 : tdat Tryd.prog 198 = some ⟨true, 4, 40, .agg #[.pointer none, .pointer none, .pointer none, .string ⟨#[]⟩]⟩ := by kernel_rfl
theorem zv_198 : ofV (.agg #[.pointer none, .pointer none, .pointer none, .string ⟨#[]⟩]) = .ag [.v (.pointer none), .v (.pointer none), .v (.pointer none), .v (.string ⟨#[]⟩)] := by kernel_rfl
theorem tf_198 : tflds Tryd.prog 198 = some [(0, 1, false), (1, 1, false), (2, 1, false), (3, 1, false)] := by kernel_rfl
theorem td_199 : tdat Tryd.prog 199 = some ⟨true, 0, 0, .agg #[]⟩ := by kernel_rfl
theorem zv_199 : ofV (.agg #[]) = .ag [] := by kernel_rfl
theorem tf_199 : tflds Tryd.prog 199 = none := by kernel_rfl
theorem tel_199 : tel Tryd.prog 199 = none := by kernel_rfl
theorem ta_199 : tarr Tryd.prog 199 = some (0, 16) := by kernel_rfl
theorem td_200 : tdat Tryd.prog 200 = some ⟨true, 0, 0, .agg #[]⟩ := by kernel_rfl
theorem zv_200 : ofV (.agg #[]) = .ag [] := by kernel_rfl
theorem tf_200 : tflds Tryd.prog 200 = some [(0, 0, true)] := by kernel_rfl
theorem td_201 : tdat Tryd.prog 201 = some ⟨true, 0, 0, .agg #[]⟩ := by kernel_rfl
theorem zv_201 : ofV (.agg #[]) = .ag [] := by kernel_rfl
theorem tf_201 : tflds Tryd.prog 201 = some [(0, 0, true)] := by kernel_rfl
theorem nk_202 : nkT Tryd.prog 202 = some .nkf := by kernel_rfl
theorem nk_203 : nkT Tryd.prog 203 = some .nkf := by kernel_rfl
theorem td_204 : tdat Tryd.prog 204 = some ⟨false, 1, 4, .int .u32 0⟩ := by kernel_rfl
theorem zv_204 : ofV (.int .u32 0) = .v (.int .u32 0) := by kernel_rfl
theorem td_205 : tdat Tryd.prog 205 = some ⟨false, 1, 1, .int .u8 0⟩ := by kernel_rfl
theorem zv_205 : ofV (.int .u8 0) = .v (.int .u8 0) := by kernel_rfl
theorem nk_206 : nkT Tryd.prog 206 = some .nkf := by kernel_rfl
theorem nk_207 : nkT Tryd.prog 207 = some .nkp := by kernel_rfl
theorem td_207 : tdat Tryd.prog 207 = some ⟨false, 1, 8, .pointer none⟩ := by kernel_rfl
theorem zv_207 : ofV (.pointer none) = .v (.pointer none) := by kernel_rfl
theorem td_208 : tdat Tryd.prog 208 = some ⟨false, 1, 4, .int .i32 0⟩ := by kernel_rfl
theorem zv_208 : ofV (.int .i32 0) = .v (.int .i32 0) := by kernel_rfl
theorem td_209 : tdat Tryd.prog 209 = some ⟨false, 1, 4, .int .i32 0⟩ := by kernel_rfl
theorem zv_209 : ofV (.int .i32 0) = .v (.int .i32 0) := by kernel_rfl
theorem td_210 : tdat Tryd.prog 210 = some ⟨true, 11, 48, .agg #[.int .u64 0, .int .u64 0, .int .u32 0, .int .u8 0, .int .u8 0, .int .u8 0, .int .u8 0, .nilFunc, .pointer none, .int .i32 0, .int .i32 0]⟩ := by kernel_rfl
theorem zv_210 : ofV (.agg #[.int .u64 0, .int .u64 0, .int .u32 0, .int .u8 0, .int .u8 0, .int .u8 0, .int .u8 0, .nilFunc, .pointer none, .int .i32 0, .int .i32 0]) = .ag [.v (.int .u64 0), .v (.int .u64 0), .v (.int .u32 0), .v (.int .u8 0), .v (.int .u8 0), .v (.int .u8 0), .v (.int .u8 0), .v .nilFunc, .v (.pointer none), .v (.int .i32 0), .v (.int .i32 0)] := by kernel_rfl
theorem tf_210 : tflds Tryd.prog 210 = some [(0, 1, false), (1, 1, false), (2, 1, false), (3, 1, false), (4, 1, false), (5, 1, false), (6, 1, false), (7, 1, false), (8, 1, false), (9, 1, false), (10, 1, false)] := by kernel_rfl
theorem td_211 : tdat Tryd.prog 211 = some ⟨true, 11, 48, .agg #[.int .u64 0, .int .u64 0, .int .u32 0, .int .u8 0, .int .u8 0, .int .u8 0, .int .u8 0, .nilFunc, .pointer none, .int .i32 0, .int .i32 0]⟩ := by kernel_rfl
theorem zv_211 : ofV (.agg #[.int .u64 0, .int .u64 0, .int .u32 0, .int .u8 0, .int .u8 0, .int .u8 0, .int .u8 0, .nilFunc, .pointer none, .int .i32 0, .int .i32 0]) = .ag [.v (.int .u64 0), .v (.int .u64 0), .v (.int .u32 0), .v (.int .u8 0), .v (.int .u8 0), .v (.int .u8 0), .v (.int .u8 0), .v .nilFunc, .v (.pointer none), .v (.int .i32 0), .v (.int .i32 0)] := by kernel_rfl
theorem tf_211 : tflds Tryd.prog 211 = some [(0, 1, false), (1, 1, false), (2, 1, false), (3, 1, false), (4, 1, false), (5, 1, false), (6, 1, false), (7, 1, false), (8, 1, false), (9, 1, false), (10, 1, false)] := by kernel_rfl
theorem nk_212 : nkT Tryd.prog 212 = some .nkf := by kernel_rfl
theorem nk_213 : nkT Tryd.prog 213 = some .nkf := by kernel_rfl
theorem td_214 : tdat Tryd.prog 214 = some ⟨true, 2, 24, .agg #[.string ⟨#[]⟩, .int .u8 0]⟩ := by kernel_rfl
theorem zv_214 : ofV (.agg #[.string ⟨#[]⟩, .int .u8 0]) = .ag [.v (.string ⟨#[]⟩), .v (.int .u8 0)] := by kernel_rfl
theorem tf_214 : tflds Tryd.prog 214 = some [(0, 1, false), (1, 1, false)] := by kernel_rfl
theorem td_215 : tdat Tryd.prog 215 = some ⟨true, 2, 24, .agg #[.string ⟨#[]⟩, .int .u8 0]⟩ := by kernel_rfl
theorem zv_215 : ofV (.agg #[.string ⟨#[]⟩, .int .u8 0]) = .ag [.v (.string ⟨#[]⟩), .v (.int .u8 0)] := by kernel_rfl
theorem tf_215 : tflds Tryd.prog 215 = some [(0, 1, false), (1, 1, false)] := by kernel_rfl
theorem nk_216 : nkT Tryd.prog 216 = some .nkp := by kernel_rfl
theorem td_216 : tdat Tryd.prog 216 = some ⟨false, 1, 8, .pointer none⟩ := by kernel_rfl
theorem zv_216 : ofV (.pointer none) = .v (.pointer none) := by kernel_rfl
theorem nk_217 : nkT Tryd.prog 217 = some .nkf := by kernel_rfl
theorem td_218 : tdat Tryd.prog 218 = some ⟨false, 1, 2, .int .u16 0⟩ := by kernel_rfl
theorem zv_218 : ofV (.int .u16 0) = .v (.int .u16 0) := by kernel_rfl
theorem td_219 : tdat Tryd.prog 219 = some ⟨true, 5, 16, .agg #[.int .i32 0, .int .u16 0, .int .u16 0, .int .u32 0, .int .u32 0]⟩ := by kernel_rfl
theorem zv_219 : ofV (.agg #[.int .i32 0, .int .u16 0, .int .u16 0, .int .u32 0, .int .u32 0]) = .ag [.v (.int .i32 0), .v (.int .u16 0), .v (.int .u16 0), .v (.int .u32 0), .v (.int .u32 0)] := by kernel_rfl
theorem tf_219 : tflds Tryd.prog 219 = some [(0, 1, false), (1, 1, false), (2, 1, false), (3, 1, false), (4, 1, false)] := by kernel_rfl
theorem td_220 : tdat Tryd.prog 220 = some ⟨true, 5, 16, .agg #[.int .i32 0, .int .u16 0, .int .u16 0, .int .u32 0, .int .u32 0]⟩ := by kernel_rfl
theorem zv_220 : ofV (.agg #[.int .i32 0, .int .u16 0, .int .u16 0, .int .u32 0, .int .u32 0]) = .ag [.v (.int .i32 0), .v (.int .u16 0), .v (.int .u16 0), .v (.int .u32 0), .v (.int .u32 0)] := by kernel_rfl
theorem tf_220 : tflds Tryd.prog 220 = some [(0, 1, false), (1, 1, false), (2, 1, false), (3, 1, false), (4, 1, false)] := by kernel_rfl
theorem td_221 : tdat Tryd.prog 221 = some ⟨false, 1, 24, .slice none 0 0⟩ := by kernel_rfl
theorem zv_221 : ofV (.slice none 0 0) = .sl .full [] := by kernel_rfl
theorem tel_221 : tel Tryd.prog 221 = some 224 := by kernel_rfl
theorem td_222 : tdat Tryd.prog 222 = some ⟨false, 1, 4, .int .i32 0⟩ := by kernel_rfl
theorem zv_222 : ofV (.int .i32 0) = .v (.int .i32 0) := by kernel_rfl
theorem td_223 : tdat Tryd.prog 223 = some ⟨true, 4, 16, .agg #[.int .i32 0, .int .i32 0, .int .i32 0, .int .i32 0]⟩ := by kernel_rfl
theorem zv_223 : ofV (.agg #[.int .i32 0, .int .i32 0, .int .i32 0, .int .i32 0]) = .ag [.v (.int .i32 0), .v (.int .i32 0), .v (.int .i32 0), .v (.int .i32 0)] := by kernel_rfl
theorem tf_223 : tflds Tryd.prog 223 = some [(0, 1, false), (1, 1, false), (2, 1, false), (3, 1, false)] := by kernel_rfl
theorem td_224 : tdat Tryd.prog 224 = some ⟨true, 4, 16, .agg #[.int .i32 0, .int .i32 0, .int .i32 0, .int .i32 0]⟩ := by kernel_rfl
theorem zv_224 : ofV (.agg #[.int .i32 0, .int .i32 0, .int .i32 0, .int .i32 0]) = .ag [.v (.int .i32 0), .v (.int .i32 0), .v (.int .i32 0), .v (.int .i32 0)] := by kernel_rfl
theorem tf_224 : tflds Tryd.prog 224 = some [(0, 1, false), (1, 1, false), (2, 1, false), (3, 1, false)] := by kernel_rfl
theorem nk_225 : nkT Tryd.prog 225 = some .nkp := by kernel_rfl
theorem td_225 : tdat Tryd.prog 225 = some ⟨false, 1, 8, .pointer none⟩ := by kernel_rfl
theorem zv_225 : ofV (.pointer none) = .v (.pointer none) := by kernel_rfl
set_option linter.defProp false
def tfA0 := And.intro @nk_1 (And.intro @td_2 (And.intro @zv_2 (And.intro @Tryd.underlying2 (And.intro @td_3 (And.intro @zv_3 (And.intro @Tryd.underlying3 (And.intro @td_4 (And.intro @zv_4 (And.intro @Tryd.underlying4 (And.intro @td_5 (And.intro @zv_5 (And.intro @Tryd.underlying5 (And.intro @td_6 (And.intro @zv_6 (And.intro @Tryd.underlying6 (And.intro @td_7 (And.intro @zv_7 (And.intro @tf_7 (And.intro @td_8 (And.intro @zv_8 (And.intro @tf_8 (And.intro @td_9 (And.intro @zv_9 (And.intro @Tryd.underlying9 (And.intro @td_10 (And.intro @zv_10 (And.intro @Tryd.underlying10 (And.intro @td_11 @zv_11))))))))))))))))))))))))))))
def tfA1 := And.intro @Tryd.underlying11 (And.intro @td_12 (And.intro @zv_12 (And.intro @Tryd.underlying12 (And.intro @td_13 (And.intro @zv_13 (And.intro @tf_13 (And.intro @td_14 (And.intro @zv_14 (And.intro @tf_14 (And.intro @nk_15 (And.intro @td_15 (And.intro @zv_15 (And.intro @Tryd.underlying15 (And.intro @nk_16 (And.intro @td_16 (And.intro @zv_16 (And.intro @Tryd.underlying16 (And.intro @nk_17 (And.intro @td_17 (And.intro @zv_17 (And.intro @Tryd.underlying17 (And.intro @td_18 (And.intro @zv_18 (And.intro @tf_18 (And.intro @td_19 (And.intro @zv_19 (And.intro @tf_19 (And.intro @nk_20 @td_20))))))))))))))))))))))))))))
def tfA2 := And.intro @zv_20 (And.intro @td_21 (And.intro @zv_21 (And.intro @Tryd.underlying21 (And.intro @td_22 (And.intro @zv_22 (And.intro @tel_22 (And.intro @Tryd.underlying22 (And.intro @nk_23 (And.intro @nk_24 (And.intro @td_24 (And.intro @zv_24 (And.intro @nk_25 (And.intro @td_25 (And.intro @zv_25 (And.intro @nk_26 (And.intro @td_27 (And.intro @zv_27 (And.intro @tel_27 (And.intro @Tryd.underlying27 (And.intro @td_28 (And.intro @zv_28 (And.intro @tel_28 (And.intro @Tryd.underlying28 (And.intro @td_29 (And.intro @zv_29 (And.intro @tf_29 (And.intro @td_30 (And.intro @zv_30 @tf_30))))))))))))))))))))))))))))
def tfA3 := And.intro @nk_31 (And.intro @nk_32 (And.intro @td_33 (And.intro @zv_33 (And.intro @tel_33 (And.intro @Tryd.underlying33 (And.intro @td_34 (And.intro @zv_34 (And.intro @tf_34 (And.intro @fl_34 (And.intro @td_35 (And.intro @zv_35 (And.intro @tf_35 (And.intro @fl_35 (And.intro @td_36 (And.intro @zv_36 (And.intro @tf_36 (And.intro @td_37 (And.intro @zv_37 (And.intro @tf_37 (And.intro @nk_38 (And.intro @td_39 (And.intro @zv_39 (And.intro @Tryd.underlying39 (And.intro @nk_41 (And.intro @nk_42 (And.intro @nk_43 (And.intro @nk_44 (And.intro @nk_45 @nk_46))))))))))))))))))))))))))))
def tfA4 := And.intro @nk_47 (And.intro @td_48 (And.intro @zv_48 (And.intro @tel_48 (And.intro @Tryd.underlying48 (And.intro @td_49 (And.intro @zv_49 (And.intro @tel_49 (And.intro @Tryd.underlying49 (And.intro @td_50 (And.intro @zv_50 (And.intro @tf_50 (And.intro @td_51 (And.intro @zv_51 (And.intro @tf_51 (And.intro @td_52 (And.intro @zv_52 (And.intro @tf_52 (And.intro @td_53 (And.intro @zv_53 (And.intro @tf_53 (And.intro @nk_54 (And.intro @nk_55 (And.intro @nk_56 (And.intro @td_57 (And.intro @zv_57 (And.intro @tel_57 (And.intro @Tryd.underlying57 (And.intro @td_58 @zv_58))))))))))))))))))))))))))))
def tfA5 := And.intro @tf_58 (And.intro @td_59 (And.intro @zv_59 (And.intro @tf_59 (And.intro @td_60 (And.intro @zv_60 (And.intro @tel_60 (And.intro @Tryd.underlying60 (And.intro @td_61 (And.intro @zv_61 (And.intro @tf_61 (And.intro @td_62 (And.intro @zv_62 (And.intro @tf_62 (And.intro @td_63 (And.intro @zv_63 (And.intro @tf_63 (And.intro @fl_63 (And.intro @td_64 (And.intro @zv_64 (And.intro @tf_64 (And.intro @fl_64 (And.intro @td_65 (And.intro @zv_65 (And.intro @tel_65 (And.intro @Tryd.underlying65 (And.intro @td_66 (And.intro @zv_66 (And.intro @tf_66 @td_67))))))))))))))))))))))))))))
def tfA6 := And.intro @zv_67 (And.intro @tf_67 (And.intro @td_68 (And.intro @zv_68 (And.intro @tf_68 (And.intro @td_69 (And.intro @zv_69 (And.intro @tf_69 (And.intro @nk_70 (And.intro @td_70 (And.intro @zv_70 (And.intro @Tryd.underlying70 (And.intro @td_71 (And.intro @zv_71 (And.intro @tf_71 (And.intro @td_72 (And.intro @zv_72 (And.intro @tf_72 (And.intro @nk_73 (And.intro @nk_74 (And.intro @nk_75 (And.intro @nk_76 (And.intro @td_76 (And.intro @zv_76 (And.intro @Tryd.underlying76 (And.intro @td_77 (And.intro @zv_77 (And.intro @tf_77 (And.intro @td_78 @zv_78))))))))))))))))))))))))))))
def tfA7 := And.intro @tf_78 (And.intro @nk_79 (And.intro @nk_80 (And.intro @td_80 (And.intro @zv_80 (And.intro @Tryd.underlying80 (And.intro @td_81 (And.intro @zv_81 (And.intro @tf_81 (And.intro @td_82 (And.intro @zv_82 (And.intro @tf_82 (And.intro @nk_83 (And.intro @nk_84 (And.intro @td_84 (And.intro @zv_84 (And.intro @Tryd.underlying84 (And.intro @td_85 (And.intro @zv_85 (And.intro @tf_85 (And.intro @fl_85 (And.intro @td_86 (And.intro @zv_86 (And.intro @tf_86 (And.intro @fl_86 (And.intro @nk_87 (And.intro @nk_88 (And.intro @nk_89 (And.intro @nk_90 @td_90))))))))))))))))))))))))))))
def tfA8 := And.intro @zv_90 (And.intro @Tryd.underlying90 (And.intro @td_91 (And.intro @zv_91 (And.intro @tf_91 (And.intro @td_92 (And.intro @zv_92 (And.intro @tf_92 (And.intro @nk_93 (And.intro @nk_94 (And.intro @td_94 (And.intro @zv_94 (And.intro @Tryd.underlying94 (And.intro @nk_95 (And.intro @nk_96 (And.intro @td_96 (And.intro @zv_96 (And.intro @Tryd.underlying96 (And.intro @td_97 (And.intro @zv_97 (And.intro @tf_97 (And.intro @td_98 (And.intro @zv_98 (And.intro @tf_98 (And.intro @nk_99 (And.intro @nk_100 (And.intro @nk_101 (And.intro @nk_102 (And.intro @nk_103 @nk_104))))))))))))))))))))))))))))
def tfA9 := And.intro @nk_105 (And.intro @nk_106 (And.intro @td_107 (And.intro @zv_107 (And.intro @tf_107 (And.intro @td_108 (And.intro @zv_108 (And.intro @tf_108 (And.intro @nk_109 (And.intro @nk_110 (And.intro @nk_111 (And.intro @nk_112 (And.intro @nk_113 (And.intro @nk_114 (And.intro @nk_115 (And.intro @td_116 (And.intro @zv_116 (And.intro @tf_116 (And.intro @td_117 (And.intro @zv_117 (And.intro @tf_117 (And.intro @nk_118 (And.intro @nk_119 (And.intro @td_120 (And.intro @zv_120 (And.intro @tel_120 (And.intro @Tryd.underlying120 (And.intro @td_121 (And.intro @zv_121 @tf_121))))))))))))))))))))))))))))
def tfA10 := And.intro @td_122 (And.intro @zv_122 (And.intro @tf_122 (And.intro @nk_123 (And.intro @nk_124 (And.intro @nk_125 (And.intro @nk_126 (And.intro @td_126 (And.intro @zv_126 (And.intro @nk_127 (And.intro @td_127 (And.intro @zv_127 (And.intro @nk_128 (And.intro @nk_129 (And.intro @td_130 (And.intro @zv_130 (And.intro @td_131 (And.intro @zv_131 (And.intro @Tryd.underlying131 (And.intro @td_132 (And.intro @zv_132 (And.intro @tf_132 (And.intro @td_133 (And.intro @zv_133 (And.intro @tf_133 (And.intro @nk_134 (And.intro @nk_135 (And.intro @td_136 (And.intro @zv_136 @Tryd.underlying136))))))))))))))))))))))))))))
def tfA11 := And.intro @nk_137 (And.intro @nk_138 (And.intro @nk_139 (And.intro @nk_140 (And.intro @nk_141 (And.intro @nk_142 (And.intro @nk_143 (And.intro @td_144 (And.intro @zv_144 (And.intro @tel_144 (And.intro @Tryd.underlying144 (And.intro @nk_145 (And.intro @nk_146 (And.intro @nk_147 (And.intro @nk_148 (And.intro @nk_149 (And.intro @td_150 (And.intro @zv_150 (And.intro @tf_150 (And.intro @fl_150 (And.intro @td_151 (And.intro @zv_151 (And.intro @tf_151 (And.intro @fl_151 (And.intro @nk_152 (And.intro @td_153 (And.intro @zv_153 (And.intro @tel_153 (And.intro @Tryd.underlying153 @nk_154))))))))))))))))))))))))))))
def tfA12 := And.intro @nk_155 (And.intro @nk_157 (And.intro @nk_158 (And.intro @td_159 (And.intro @zv_159 (And.intro @tf_159 (And.intro @td_160 (And.intro @zv_160 (And.intro @tf_160 (And.intro @nk_161 (And.intro @nk_162 (And.intro @nk_163 (And.intro @td_164 (And.intro @zv_164 (And.intro @tf_164 (And.intro @td_165 (And.intro @zv_165 (And.intro @tf_165 (And.intro @nk_166 (And.intro @td_166 (And.intro @zv_166 (And.intro @Tryd.underlying166 (And.intro @nk_167 (And.intro @td_167 (And.intro @zv_167 (And.intro @nk_169 (And.intro @nk_170 (And.intro @td_170 (And.intro @zv_170 @nk_171))))))))))))))))))))))))))))
def tfA13 := And.intro @nk_172 (And.intro @td_172 (And.intro @zv_172 (And.intro @td_173 (And.intro @zv_173 (And.intro @tel_173 (And.intro @Tryd.underlying173 (And.intro @nk_174 (And.intro @nk_175 (And.intro @nk_176 (And.intro @nk_177 (And.intro @td_177 (And.intro @zv_177 (And.intro @nk_179 (And.intro @nk_180 (And.intro @nk_181 (And.intro @nk_182 (And.intro @nk_183 (And.intro @nk_185 (And.intro @td_186 (And.intro @zv_186 (And.intro @tel_186 (And.intro @Tryd.underlying186 (And.intro @nk_187 (And.intro @nk_188 (And.intro @nk_189 (And.intro @nk_190 (And.intro @nk_191 (And.intro @nk_192 @nk_194))))))))))))))))))))))))))))
def tfA14 := And.intro @nk_195 (And.intro @nk_196 (And.intro @td_197 (And.intro @zv_197 (And.intro @tf_197 (And.intro @td_198 (And.intro @zv_198 (And.intro @tf_198 (And.intro @td_199 (And.intro @zv_199 (And.intro @tf_199 (And.intro @tel_199 (And.intro @ta_199 (And.intro @Tryd.underlying199 (And.intro @td_200 (And.intro @zv_200 (And.intro @tf_200 (And.intro @td_201 (And.intro @zv_201 (And.intro @tf_201 (And.intro @nk_202 (And.intro @nk_203 (And.intro @td_204 (And.intro @zv_204 (And.intro @Tryd.underlying204 (And.intro @td_205 (And.intro @zv_205 (And.intro @Tryd.underlying205 (And.intro @nk_206 @nk_207))))))))))))))))))))))))))))
def tfA15 := And.intro @td_207 (And.intro @zv_207 (And.intro @Tryd.underlying207 (And.intro @td_208 (And.intro @zv_208 (And.intro @Tryd.underlying208 (And.intro @td_209 (And.intro @zv_209 (And.intro @Tryd.underlying209 (And.intro @td_210 (And.intro @zv_210 (And.intro @tf_210 (And.intro @td_211 (And.intro @zv_211 (And.intro @tf_211 (And.intro @nk_212 (And.intro @nk_213 (And.intro @td_214 (And.intro @zv_214 (And.intro @tf_214 (And.intro @td_215 (And.intro @zv_215 (And.intro @tf_215 (And.intro @nk_216 (And.intro @td_216 (And.intro @zv_216 (And.intro @Tryd.underlying216 (And.intro @nk_217 (And.intro @td_218 @zv_218))))))))))))))))))))))))))))
def tfA16 := And.intro @Tryd.underlying218 (And.intro @td_219 (And.intro @zv_219 (And.intro @tf_219 (And.intro @td_220 (And.intro @zv_220 (And.intro @tf_220 (And.intro @td_221 (And.intro @zv_221 (And.intro @tel_221 (And.intro @Tryd.underlying221 (And.intro @td_222 (And.intro @zv_222 (And.intro @Tryd.underlying222 (And.intro @td_223 (And.intro @zv_223 (And.intro @tf_223 (And.intro @td_224 (And.intro @zv_224 (And.intro @tf_224 (And.intro @nk_225 (And.intro @td_225 (And.intro @zv_225 @Tryd.underlying225))))))))))))))))))))))
def tfA := And.intro @tfA0 (And.intro @tfA1 (And.intro @tfA2 (And.intro @tfA3 (And.intro @tfA4 (And.intro @tfA5 (And.intro @tfA6 (And.intro @tfA7 (And.intro @tfA8 (And.intro @tfA9 (And.intro @tfA10 (And.intro @tfA11 (And.intro @tfA12 (And.intro @tfA13 (And.intro @tfA14 (And.intro @tfA15 @tfA16)))))))))))))))
end Go.Proofs.YteiaedmipkcfeaaDoor
