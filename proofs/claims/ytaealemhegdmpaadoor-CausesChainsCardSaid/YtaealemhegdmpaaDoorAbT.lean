/-
  Closed facts on the types of this seat.
-/
import Derived.Test.YtaealemhegdmpaaDoorRows
import Derived.Test.YtaealemhegdmpaaDoorWpA
import Derived.KernelRfl
namespace Go.Proofs.YtaealemhegdmpaaDoor
open Go Go.RowKit
theorem ok_mix : Tryd.prog.follows .mixedOrders = true := by kernel_rfl
theorem nk_1 : nkT Tryd.prog 1 = some .nkf := by kernel_rfl
theorem td_2 : tdat Tryd.prog 2 = some ⟨false, 1, 8, .int .i64 0⟩ := by kernel_rfl
theorem zv_2 : ofV (.int .i64 0) = .v (.int .i64 0) := by kernel_rfl
theorem td_3 : tdat Tryd.prog 3 = some ⟨false, 1, 8, .int .i64 0⟩ := by kernel_rfl
theorem zv_3 : ofV (.int .i64 0) = .v (.int .i64 0) := by kernel_rfl
theorem td_4 : tdat Tryd.prog 4 = some ⟨false, 1, 1, .bool false⟩ := by kernel_rfl
theorem zv_4 : ofV (.bool false) = .v (.bool false) := by kernel_rfl
theorem td_5 : tdat Tryd.prog 5 = some ⟨false, 1, 1, .int .u8 0⟩ := by kernel_rfl
theorem zv_5 : ofV (.int .u8 0) = .v (.int .u8 0) := by kernel_rfl
theorem td_6 : tdat Tryd.prog 6 = some ⟨false, 1, 1, .int .u8 0⟩ := by kernel_rfl
theorem zv_6 : ofV (.int .u8 0) = .v (.int .u8 0) := by kernel_rfl
theorem td_7 : tdat Tryd.prog 7 = some ⟨true, 4, 24, .agg #[.int .i64 0, .int .i64 0, .bool false, .int .u8 0]⟩ := by kernel_rfl
theorem zv_7 : ofV (.agg #[.int .i64 0, .int .i64 0, .bool false, .int .u8 0]) = .ag [.v (.int .i64 0), .v (.int .i64 0), .v (.bool false), .v (.int .u8 0)] := by kernel_rfl
theorem tf_7 : tflds Tryd.prog 7 = some [(0, 1, false), (1, 1, false), (2, 1, false), (3, 1, false)] := by kernel_rfl
theorem td_8 : tdat Tryd.prog 8 = some ⟨true, 4, 24, .agg #[.int .i64 0, .int .i64 0, .bool false, .int .u8 0]⟩ := by kernel_rfl
theorem zv_8 : ofV (.agg #[.int .i64 0, .int .i64 0, .bool false, .int .u8 0]) = .ag [.v (.int .i64 0), .v (.int .i64 0), .v (.bool false), .v (.int .u8 0)] := by kernel_rfl
theorem tf_8 : tflds Tryd.prog 8 = some [(0, 1, false), (1, 1, false), (2, 1, false), (3, 1, false)] := by kernel_rfl
theorem td_9 : tdat Tryd.prog 9 = some ⟨false, 1, 16, .string ⟨#[]⟩⟩ := by kernel_rfl
theorem zv_9 : ofV (.string ⟨#[]⟩) = .v (.string ⟨#[]⟩) := by kernel_rfl
theorem td_10 : tdat Tryd.prog 10 = some ⟨false, 1, 16, .string ⟨#[]⟩⟩ := by kernel_rfl
theorem zv_10 : ofV (.string ⟨#[]⟩) = .v (.string ⟨#[]⟩) := by kernel_rfl
theorem td_11 : tdat Tryd.prog 11 = some ⟨false, 1, 16, .string ⟨#[]⟩⟩ := by kernel_rfl
theorem zv_11 : ofV (.string ⟨#[]⟩) = .v (.string ⟨#[]⟩) := by kernel_rfl
theorem td_12 : tdat Tryd.prog 12 = some ⟨false, 1, 8, .int .u64 0⟩ := by kernel_rfl
theorem zv_12 : ofV (.int .u64 0) = .v (.int .u64 0) := by kernel_rfl
theorem td_13 : tdat Tryd.prog 13 = some ⟨true, 2, 24, .agg #[.string ⟨#[]⟩, .int .u64 0]⟩ := by kernel_rfl
theorem zv_13 : ofV (.agg #[.string ⟨#[]⟩, .int .u64 0]) = .ag [.v (.string ⟨#[]⟩), .v (.int .u64 0)] := by kernel_rfl
theorem tf_13 : tflds Tryd.prog 13 = some [(0, 1, false), (1, 1, false)] := by kernel_rfl
theorem td_14 : tdat Tryd.prog 14 = some ⟨true, 2, 24, .agg #[.string ⟨#[]⟩, .int .u64 0]⟩ := by kernel_rfl
theorem zv_14 : ofV (.agg #[.string ⟨#[]⟩, .int .u64 0]) = .ag [.v (.string ⟨#[]⟩), .v (.int .u64 0)] := by kernel_rfl
theorem tf_14 : tflds Tryd.prog 14 = some [(0, 1, false), (1, 1, false)] := by kernel_rfl
theorem nk_15 : nkT Tryd.prog 15 = some .nkp := by kernel_rfl
theorem td_15 : tdat Tryd.prog 15 = some ⟨false, 1, 8, .pointer none⟩ := by kernel_rfl
theorem zv_15 : ofV (.pointer none) = .v (.pointer none) := by kernel_rfl
theorem nk_16 : nkT Tryd.prog 16 = some .nkp := by kernel_rfl
theorem td_16 : tdat Tryd.prog 16 = some ⟨false, 1, 8, .pointer none⟩ := by kernel_rfl
theorem zv_16 : ofV (.pointer none) = .v (.pointer none) := by kernel_rfl
theorem nk_17 : nkT Tryd.prog 17 = some .nkp := by kernel_rfl
theorem td_17 : tdat Tryd.prog 17 = some ⟨false, 1, 8, .pointer none⟩ := by kernel_rfl
theorem zv_17 : ofV (.pointer none) = .v (.pointer none) := by kernel_rfl
theorem td_18 : tdat Tryd.prog 18 = some ⟨true, 1, 8, .agg #[.pointer none]⟩ := by kernel_rfl
theorem zv_18 : ofV (.agg #[.pointer none]) = .ag [.v (.pointer none)] := by kernel_rfl
theorem tf_18 : tflds Tryd.prog 18 = some [(0, 1, false)] := by kernel_rfl
theorem td_19 : tdat Tryd.prog 19 = some ⟨true, 1, 8, .agg #[.pointer none]⟩ := by kernel_rfl
theorem zv_19 : ofV (.agg #[.pointer none]) = .ag [.v (.pointer none)] := by kernel_rfl
theorem tf_19 : tflds Tryd.prog 19 = some [(0, 1, false)] := by kernel_rfl
theorem nk_20 : nkT Tryd.prog 20 = some .nki := by kernel_rfl
theorem td_20 : tdat Tryd.prog 20 = some ⟨false, 1, 16, .nilIface⟩ := by kernel_rfl
theorem zv_20 : ofV (.nilIface) = .v .nilIface := by kernel_rfl
theorem td_21 : tdat Tryd.prog 21 = some ⟨false, 1, 4, .int .i32 0⟩ := by kernel_rfl
theorem zv_21 : ofV (.int .i32 0) = .v (.int .i32 0) := by kernel_rfl
theorem td_22 : tdat Tryd.prog 22 = some ⟨false, 1, 24, .slice none 0 0⟩ := by kernel_rfl
theorem zv_22 : ofV (.slice none 0 0) = .sl .full [] := by kernel_rfl
theorem tel_22 : tel Tryd.prog 22 = some 5 := by kernel_rfl
theorem td_23 : tdat Tryd.prog 23 = some ⟨false, 1, 24, .slice none 0 0⟩ := by kernel_rfl
theorem zv_23 : ofV (.slice none 0 0) = .sl .full [] := by kernel_rfl
theorem tel_23 : tel Tryd.prog 23 = some 4 := by kernel_rfl
theorem nk_24 : nkT Tryd.prog 24 = some .nkf := by kernel_rfl
theorem td_25 : tdat Tryd.prog 25 = some ⟨false, 1, 24, .slice none 0 0⟩ := by kernel_rfl
theorem zv_25 : ofV (.slice none 0 0) = .sl .full [] := by kernel_rfl
theorem tel_25 : tel Tryd.prog 25 = some 87 := by kernel_rfl
theorem td_26 : tdat Tryd.prog 26 = some ⟨false, 1, 24, .slice none 0 0⟩ := by kernel_rfl
theorem zv_26 : ofV (.slice none 0 0) = .sl .full [] := by kernel_rfl
theorem tel_26 : tel Tryd.prog 26 = some 55 := by kernel_rfl
theorem td_27 : tdat Tryd.prog 27 = some ⟨true, 2, 48, .agg #[.slice none 0 0, .slice none 0 0]⟩ := by kernel_rfl
theorem zv_27 : ofV (.agg #[.slice none 0 0, .slice none 0 0]) = .ag [.sl .full [], .sl .full []] := by kernel_rfl
theorem tf_27 : tflds Tryd.prog 27 = some [(0, 1, false), (1, 1, false)] := by kernel_rfl
theorem td_28 : tdat Tryd.prog 28 = some ⟨true, 2, 48, .agg #[.slice none 0 0, .slice none 0 0]⟩ := by kernel_rfl
theorem zv_28 : ofV (.agg #[.slice none 0 0, .slice none 0 0]) = .ag [.sl .full [], .sl .full []] := by kernel_rfl
theorem tf_28 : tflds Tryd.prog 28 = some [(0, 1, false), (1, 1, false)] := by kernel_rfl
theorem nk_29 : nkT Tryd.prog 29 = some .nkf := by kernel_rfl
theorem nk_30 : nkT Tryd.prog 30 = some .nki := by kernel_rfl
theorem td_30 : tdat Tryd.prog 30 = some ⟨false, 1, 16, .nilIface⟩ := by kernel_rfl
theorem zv_30 : ofV (.nilIface) = .v .nilIface := by kernel_rfl
theorem nk_31 : nkT Tryd.prog 31 = some .nki := by kernel_rfl
theorem td_31 : tdat Tryd.prog 31 = some ⟨false, 1, 16, .nilIface⟩ := by kernel_rfl
theorem zv_31 : ofV (.nilIface) = .v .nilIface := by kernel_rfl
theorem nk_32 : nkT Tryd.prog 32 = some .nkf := by kernel_rfl
theorem td_33 : tdat Tryd.prog 33 = some ⟨true, 2, 16, .agg #[.int .i64 0, .int .i64 0]⟩ := by kernel_rfl
theorem zv_33 : ofV (.agg #[.int .i64 0, .int .i64 0]) = .ag [.v (.int .i64 0), .v (.int .i64 0)] := by kernel_rfl
theorem tf_33 : tflds Tryd.prog 33 = some [(0, 1, false), (1, 1, false)] := by kernel_rfl
theorem fl_33 : flat1 Tryd.prog 33 = some [.ski, .ski] := by kernel_rfl
theorem td_34 : tdat Tryd.prog 34 = some ⟨true, 2, 16, .agg #[.int .i64 0, .int .i64 0]⟩ := by kernel_rfl
theorem zv_34 : ofV (.agg #[.int .i64 0, .int .i64 0]) = .ag [.v (.int .i64 0), .v (.int .i64 0)] := by kernel_rfl
theorem tf_34 : tflds Tryd.prog 34 = some [(0, 1, false), (1, 1, false)] := by kernel_rfl
theorem fl_34 : flat1 Tryd.prog 34 = some [.ski, .ski] := by kernel_rfl
theorem nk_36 : nkT Tryd.prog 36 = some .nkf := by kernel_rfl
theorem nk_37 : nkT Tryd.prog 37 = some .nkf := by kernel_rfl
theorem nk_38 : nkT Tryd.prog 38 = some .nkf := by kernel_rfl
theorem td_39 : tdat Tryd.prog 39 = some ⟨false, 1, 8, .int .i64 0⟩ := by kernel_rfl
theorem zv_39 : ofV (.int .i64 0) = .v (.int .i64 0) := by kernel_rfl
theorem nk_40 : nkT Tryd.prog 40 = some .nkf := by kernel_rfl
theorem td_41 : tdat Tryd.prog 41 = some ⟨true, 2, 24, .agg #[.int .u8 0, .string ⟨#[]⟩]⟩ := by kernel_rfl
theorem zv_41 : ofV (.agg #[.int .u8 0, .string ⟨#[]⟩]) = .ag [.v (.int .u8 0), .v (.string ⟨#[]⟩)] := by kernel_rfl
theorem tf_41 : tflds Tryd.prog 41 = some [(0, 1, false), (1, 1, false)] := by kernel_rfl
theorem fl_41 : flat1 Tryd.prog 41 = some [.ski, .sks] := by kernel_rfl
theorem td_42 : tdat Tryd.prog 42 = some ⟨true, 2, 24, .agg #[.int .u8 0, .string ⟨#[]⟩]⟩ := by kernel_rfl
theorem zv_42 : ofV (.agg #[.int .u8 0, .string ⟨#[]⟩]) = .ag [.v (.int .u8 0), .v (.string ⟨#[]⟩)] := by kernel_rfl
theorem tf_42 : tflds Tryd.prog 42 = some [(0, 1, false), (1, 1, false)] := by kernel_rfl
theorem fl_42 : flat1 Tryd.prog 42 = some [.ski, .sks] := by kernel_rfl
theorem td_43 : tdat Tryd.prog 43 = some ⟨false, 1, 24, .slice none 0 0⟩ := by kernel_rfl
theorem zv_43 : ofV (.slice none 0 0) = .sl .full [] := by kernel_rfl
theorem tel_43 : tel Tryd.prog 43 = some 124 := by kernel_rfl
theorem td_44 : tdat Tryd.prog 44 = some ⟨false, 1, 24, .slice none 0 0⟩ := by kernel_rfl
theorem zv_44 : ofV (.slice none 0 0) = .sl .full [] := by kernel_rfl
theorem tel_44 : tel Tryd.prog 44 = some 9 := by kernel_rfl
theorem td_45 : tdat Tryd.prog 45 = some ⟨false, 1, 24, .slice none 0 0⟩ := by kernel_rfl
theorem zv_45 : ofV (.slice none 0 0) = .sl .full [] := by kernel_rfl
theorem tel_45 : tel Tryd.prog 45 = some 47 := by kernel_rfl
theorem td_46 : tdat Tryd.prog 46 = some ⟨true, 8, 88, .agg #[.int .u8 0, .int .u8 0, .int .i32 0, .string ⟨#[]⟩, .slice none 0 0, .slice none 0 0, .int .i64 0, .int .i64 0]⟩ := by kernel_rfl
theorem zv_46 : ofV (.agg #[.int .u8 0, .int .u8 0, .int .i32 0, .string ⟨#[]⟩, .slice none 0 0, .slice none 0 0, .int .i64 0, .int .i64 0]) = .ag [.v (.int .u8 0), .v (.int .u8 0), .v (.int .i32 0), .v (.string ⟨#[]⟩), .sl .full [], .sl .full [], .v (.int .i64 0), .v (.int .i64 0)] := by kernel_rfl
theorem tf_46 : tflds Tryd.prog 46 = some [(0, 1, false), (1, 1, false), (2, 1, false), (3, 1, false), (4, 1, false), (5, 1, false), (6, 2, true)] := by kernel_rfl
theorem td_47 : tdat Tryd.prog 47 = some ⟨true, 8, 88, .agg #[.int .u8 0, .int .u8 0, .int .i32 0, .string ⟨#[]⟩, .slice none 0 0, .slice none 0 0, .int .i64 0, .int .i64 0]⟩ := by kernel_rfl
theorem zv_47 : ofV (.agg #[.int .u8 0, .int .u8 0, .int .i32 0, .string ⟨#[]⟩, .slice none 0 0, .slice none 0 0, .int .i64 0, .int .i64 0]) = .ag [.v (.int .u8 0), .v (.int .u8 0), .v (.int .i32 0), .v (.string ⟨#[]⟩), .sl .full [], .sl .full [], .v (.int .i64 0), .v (.int .i64 0)] := by kernel_rfl
theorem tf_47 : tflds Tryd.prog 47 = some [(0, 1, false), (1, 1, false), (2, 1, false), (3, 1, false), (4, 1, false), (5, 1, false), (6, 2, true)] := by kernel_rfl
theorem td_48 : tdat Tryd.prog 48 = some ⟨true, 15, 176, .agg #[.string ⟨#[]⟩, .int .u8 0, .string ⟨#[]⟩, .slice none 0 0, .bool false, .int .u8 0, .int .u8 0, .int .i32 0, .string ⟨#[]⟩, .slice none 0 0, .slice none 0 0, .int .i64 0, .int .i64 0, .int .i64 0, .int .i64 0]⟩ := by kernel_rfl
theorem zv_48 : ofV (.agg #[.string ⟨#[]⟩, .int .u8 0, .string ⟨#[]⟩, .slice none 0 0, .bool false, .int .u8 0, .int .u8 0, .int .i32 0, .string ⟨#[]⟩, .slice none 0 0, .slice none 0 0, .int .i64 0, .int .i64 0, .int .i64 0, .int .i64 0]) = .ag [.v (.string ⟨#[]⟩), .v (.int .u8 0), .v (.string ⟨#[]⟩), .sl .full [], .v (.bool false), .v (.int .u8 0), .v (.int .u8 0), .v (.int .i32 0), .v (.string ⟨#[]⟩), .sl .full [], .sl .full [], .v (.int .i64 0), .v (.int .i64 0), .v (.int .i64 0), .v (.int .i64 0)] := by kernel_rfl
theorem tf_48 : tflds Tryd.prog 48 = some [(0, 1, false), (1, 2, true), (3, 1, false), (4, 1, false), (5, 8, true), (13, 2, true)] := by kernel_rfl
theorem td_49 : tdat Tryd.prog 49 = some ⟨true, 15, 176, .agg #[.string ⟨#[]⟩, .int .u8 0, .string ⟨#[]⟩, .slice none 0 0, .bool false, .int .u8 0, .int .u8 0, .int .i32 0, .string ⟨#[]⟩, .slice none 0 0, .slice none 0 0, .int .i64 0, .int .i64 0, .int .i64 0, .int .i64 0]⟩ := by kernel_rfl
theorem zv_49 : ofV (.agg #[.string ⟨#[]⟩, .int .u8 0, .string ⟨#[]⟩, .slice none 0 0, .bool false, .int .u8 0, .int .u8 0, .int .i32 0, .string ⟨#[]⟩, .slice none 0 0, .slice none 0 0, .int .i64 0, .int .i64 0, .int .i64 0, .int .i64 0]) = .ag [.v (.string ⟨#[]⟩), .v (.int .u8 0), .v (.string ⟨#[]⟩), .sl .full [], .v (.bool false), .v (.int .u8 0), .v (.int .u8 0), .v (.int .i32 0), .v (.string ⟨#[]⟩), .sl .full [], .sl .full [], .v (.int .i64 0), .v (.int .i64 0), .v (.int .i64 0), .v (.int .i64 0)] := by kernel_rfl
theorem tf_49 : tflds Tryd.prog 49 = some [(0, 1, false), (1, 2, true), (3, 1, false), (4, 1, false), (5, 8, true), (13, 2, true)] := by kernel_rfl
theorem td_50 : tdat Tryd.prog 50 = some ⟨false, 1, 24, .slice none 0 0⟩ := by kernel_rfl
theorem zv_50 : ofV (.slice none 0 0) = .sl .full [] := by kernel_rfl
theorem tel_50 : tel Tryd.prog 50 = some 49 := by kernel_rfl
theorem td_51 : tdat Tryd.prog 51 = some ⟨false, 1, 24, .slice none 0 0⟩ := by kernel_rfl
theorem zv_51 : ofV (.slice none 0 0) = .sl .full [] := by kernel_rfl
theorem tel_51 : tel Tryd.prog 51 = some 58 := by kernel_rfl
theorem td_52 : tdat Tryd.prog 52 = some ⟨true, 2, 48, .agg #[.slice none 0 0, .slice none 0 0]⟩ := by kernel_rfl
theorem zv_52 : ofV (.agg #[.slice none 0 0, .slice none 0 0]) = .ag [.sl .full [], .sl .full []] := by kernel_rfl
theorem tf_52 : tflds Tryd.prog 52 = some [(0, 1, false), (1, 1, false)] := by kernel_rfl
theorem td_53 : tdat Tryd.prog 53 = some ⟨true, 2, 48, .agg #[.slice none 0 0, .slice none 0 0]⟩ := by kernel_rfl
theorem zv_53 : ofV (.agg #[.slice none 0 0, .slice none 0 0]) = .ag [.sl .full [], .sl .full []] := by kernel_rfl
theorem tf_53 : tflds Tryd.prog 53 = some [(0, 1, false), (1, 1, false)] := by kernel_rfl
theorem td_54 : tdat Tryd.prog 54 = some ⟨true, 7, 128, .agg #[.string ⟨#[]⟩, .slice none 0 0, .slice none 0 0, .slice none 0 0, .slice none 0 0, .int .i64 0, .int .i64 0]⟩ := by kernel_rfl
theorem zv_54 : ofV (.agg #[.string ⟨#[]⟩, .slice none 0 0, .slice none 0 0, .slice none 0 0, .slice none 0 0, .int .i64 0, .int .i64 0]) = .ag [.v (.string ⟨#[]⟩), .sl .full [], .sl .full [], .sl .full [], .sl .full [], .v (.int .i64 0), .v (.int .i64 0)] := by kernel_rfl
theorem tf_54 : tflds Tryd.prog 54 = some [(0, 1, false), (1, 1, false), (2, 1, false), (3, 2, true), (5, 2, true)] := by kernel_rfl
theorem td_55 : tdat Tryd.prog 55 = some ⟨true, 7, 128, .agg #[.string ⟨#[]⟩, .slice none 0 0, .slice none 0 0, .slice none 0 0, .slice none 0 0, .int .i64 0, .int .i64 0]⟩ := by kernel_rfl
theorem zv_55 : ofV (.agg #[.string ⟨#[]⟩, .slice none 0 0, .slice none 0 0, .slice none 0 0, .slice none 0 0, .int .i64 0, .int .i64 0]) = .ag [.v (.string ⟨#[]⟩), .sl .full [], .sl .full [], .sl .full [], .sl .full [], .v (.int .i64 0), .v (.int .i64 0)] := by kernel_rfl
theorem tf_55 : tflds Tryd.prog 55 = some [(0, 1, false), (1, 1, false), (2, 1, false), (3, 2, true), (5, 2, true)] := by kernel_rfl
theorem td_56 : tdat Tryd.prog 56 = some ⟨false, 1, 24, .slice none 0 0⟩ := by kernel_rfl
theorem zv_56 : ofV (.slice none 0 0) = .sl .full [] := by kernel_rfl
theorem tel_56 : tel Tryd.prog 56 = some 116 := by kernel_rfl
theorem td_57 : tdat Tryd.prog 57 = some ⟨true, 16, 208, .agg #[.int .u8 0, .slice none 0 0, .string ⟨#[]⟩, .slice none 0 0, .bool false, .int .u8 0, .int .u8 0, .int .i32 0, .string ⟨#[]⟩, .slice none 0 0, .slice none 0 0, .int .i64 0, .int .i64 0, .slice none 0 0, .int .i64 0, .int .i64 0]⟩ := by kernel_rfl
theorem zv_57 : ofV (.agg #[.int .u8 0, .slice none 0 0, .string ⟨#[]⟩, .slice none 0 0, .bool false, .int .u8 0, .int .u8 0, .int .i32 0, .string ⟨#[]⟩, .slice none 0 0, .slice none 0 0, .int .i64 0, .int .i64 0, .slice none 0 0, .int .i64 0, .int .i64 0]) = .ag [.v (.int .u8 0), .sl .full [], .v (.string ⟨#[]⟩), .sl .full [], .v (.bool false), .v (.int .u8 0), .v (.int .u8 0), .v (.int .i32 0), .v (.string ⟨#[]⟩), .sl .full [], .sl .full [], .v (.int .i64 0), .v (.int .i64 0), .sl .full [], .v (.int .i64 0), .v (.int .i64 0)] := by kernel_rfl
theorem tf_57 : tflds Tryd.prog 57 = some [(0, 1, false), (1, 1, false), (2, 1, false), (3, 1, false), (4, 1, false), (5, 8, true), (13, 1, false), (14, 2, true)] := by kernel_rfl
theorem td_58 : tdat Tryd.prog 58 = some ⟨true, 16, 208, .agg #[.int .u8 0, .slice none 0 0, .string ⟨#[]⟩, .slice none 0 0, .bool false, .int .u8 0, .int .u8 0, .int .i32 0, .string ⟨#[]⟩, .slice none 0 0, .slice none 0 0, .int .i64 0, .int .i64 0, .slice none 0 0, .int .i64 0, .int .i64 0]⟩ := by kernel_rfl
theorem zv_58 : ofV (.agg #[.int .u8 0, .slice none 0 0, .string ⟨#[]⟩, .slice none 0 0, .bool false, .int .u8 0, .int .u8 0, .int .i32 0, .string ⟨#[]⟩, .slice none 0 0, .slice none 0 0, .int .i64 0, .int .i64 0, .slice none 0 0, .int .i64 0, .int .i64 0]) = .ag [.v (.int .u8 0), .sl .full [], .v (.string ⟨#[]⟩), .sl .full [], .v (.bool false), .v (.int .u8 0), .v (.int .u8 0), .v (.int .i32 0), .v (.string ⟨#[]⟩), .sl .full [], .sl .full [], .v (.int .i64 0), .v (.int .i64 0), .sl .full [], .v (.int .i64 0), .v (.int .i64 0)] := by kernel_rfl
theorem tf_58 : tflds Tryd.prog 58 = some [(0, 1, false), (1, 1, false), (2, 1, false), (3, 1, false), (4, 1, false), (5, 8, true), (13, 1, false), (14, 2, true)] := by kernel_rfl
theorem nk_59 : nkT Tryd.prog 59 = some .nkf := by kernel_rfl
theorem nk_60 : nkT Tryd.prog 60 = some .nkp := by kernel_rfl
theorem td_60 : tdat Tryd.prog 60 = some ⟨false, 1, 8, .pointer none⟩ := by kernel_rfl
theorem zv_60 : ofV (.pointer none) = .v (.pointer none) := by kernel_rfl
theorem nk_61 : nkT Tryd.prog 61 = some .nkf := by kernel_rfl
theorem td_62 : tdat Tryd.prog 62 = some ⟨false, 1, 24, .slice none 0 0⟩ := by kernel_rfl
theorem zv_62 : ofV (.slice none 0 0) = .sl .full [] := by kernel_rfl
theorem tel_62 : tel Tryd.prog 62 = some 67 := by kernel_rfl
theorem td_63 : tdat Tryd.prog 63 = some ⟨true, 1, 24, .agg #[.slice none 0 0]⟩ := by kernel_rfl
theorem zv_63 : ofV (.agg #[.slice none 0 0]) = .ag [.sl .full []] := by kernel_rfl
theorem tf_63 : tflds Tryd.prog 63 = some [(0, 1, false)] := by kernel_rfl
theorem td_64 : tdat Tryd.prog 64 = some ⟨true, 1, 24, .agg #[.slice none 0 0]⟩ := by kernel_rfl
theorem zv_64 : ofV (.agg #[.slice none 0 0]) = .ag [.sl .full []] := by kernel_rfl
theorem tf_64 : tflds Tryd.prog 64 = some [(0, 1, false)] := by kernel_rfl
theorem td_65 : tdat Tryd.prog 65 = some ⟨false, 1, 24, .slice none 0 0⟩ := by kernel_rfl
theorem zv_65 : ofV (.slice none 0 0) = .sl .full [] := by kernel_rfl
theorem tel_65 : tel Tryd.prog 65 = some 3 := by kernel_rfl
theorem td_66 : tdat Tryd.prog 66 = some ⟨true, 4, 56, .agg #[.string ⟨#[]⟩, .int .i64 0, .int .i64 0, .slice none 0 0]⟩ := by kernel_rfl
theorem zv_66 : ofV (.agg #[.string ⟨#[]⟩, .int .i64 0, .int .i64 0, .slice none 0 0]) = .ag [.v (.string ⟨#[]⟩), .v (.int .i64 0), .v (.int .i64 0), .sl .full []] := by kernel_rfl
theorem tf_66 : tflds Tryd.prog 66 = some [(0, 1, false), (1, 2, true), (3, 1, false)] := by kernel_rfl
theorem td_67 : tdat Tryd.prog 67 = some ⟨true, 4, 56, .agg #[.string ⟨#[]⟩, .int .i64 0, .int .i64 0, .slice none 0 0]⟩ := by kernel_rfl
theorem zv_67 : ofV (.agg #[.string ⟨#[]⟩, .int .i64 0, .int .i64 0, .slice none 0 0]) = .ag [.v (.string ⟨#[]⟩), .v (.int .i64 0), .v (.int .i64 0), .sl .full []] := by kernel_rfl
theorem tf_67 : tflds Tryd.prog 67 = some [(0, 1, false), (1, 2, true), (3, 1, false)] := by kernel_rfl
theorem nk_68 : nkT Tryd.prog 68 = some .nkf := by kernel_rfl
theorem nk_69 : nkT Tryd.prog 69 = some .nkf := by kernel_rfl
theorem nk_70 : nkT Tryd.prog 70 = some .nkp := by kernel_rfl
theorem td_70 : tdat Tryd.prog 70 = some ⟨false, 1, 8, .pointer none⟩ := by kernel_rfl
theorem zv_70 : ofV (.pointer none) = .v (.pointer none) := by kernel_rfl
theorem nk_71 : nkT Tryd.prog 71 = some .nkf := by kernel_rfl
theorem td_72 : tdat Tryd.prog 72 = some ⟨false, 1, 24, .slice none 0 0⟩ := by kernel_rfl
theorem zv_72 : ofV (.slice none 0 0) = .sl .full [] := by kernel_rfl
theorem tel_72 : tel Tryd.prog 72 = some 34 := by kernel_rfl
theorem td_73 : tdat Tryd.prog 73 = some ⟨false, 1, 24, .slice none 0 0⟩ := by kernel_rfl
theorem zv_73 : ofV (.slice none 0 0) = .sl .full [] := by kernel_rfl
theorem tel_73 : tel Tryd.prog 73 = some 23 := by kernel_rfl
theorem td_74 : tdat Tryd.prog 74 = some ⟨false, 1, 24, .slice none 0 0⟩ := by kernel_rfl
theorem zv_74 : ofV (.slice none 0 0) = .sl .full [] := by kernel_rfl
theorem tel_74 : tel Tryd.prog 74 = some 98 := by kernel_rfl
theorem td_75 : tdat Tryd.prog 75 = some ⟨true, 4, 96, .agg #[.slice none 0 0, .slice none 0 0, .slice none 0 0, .slice none 0 0]⟩ := by kernel_rfl
theorem zv_75 : ofV (.agg #[.slice none 0 0, .slice none 0 0, .slice none 0 0, .slice none 0 0]) = .ag [.sl .full [], .sl .full [], .sl .full [], .sl .full []] := by kernel_rfl
theorem tf_75 : tflds Tryd.prog 75 = some [(0, 1, false), (1, 1, false), (2, 1, false), (3, 1, false)] := by kernel_rfl
theorem td_76 : tdat Tryd.prog 76 = some ⟨true, 4, 96, .agg #[.slice none 0 0, .slice none 0 0, .slice none 0 0, .slice none 0 0]⟩ := by kernel_rfl
theorem zv_76 : ofV (.agg #[.slice none 0 0, .slice none 0 0, .slice none 0 0, .slice none 0 0]) = .ag [.sl .full [], .sl .full [], .sl .full [], .sl .full []] := by kernel_rfl
theorem tf_76 : tflds Tryd.prog 76 = some [(0, 1, false), (1, 1, false), (2, 1, false), (3, 1, false)] := by kernel_rfl
theorem nk_77 : nkT Tryd.prog 77 = some .nkp := by kernel_rfl
theorem td_77 : tdat Tryd.prog 77 = some ⟨false, 1, 8, .pointer none⟩ := by kernel_rfl
theorem zv_77 : ofV (.pointer none) = .v (.pointer none) := by kernel_rfl
theorem nk_78 : nkT Tryd.prog 78 = some .nkf := by kernel_rfl
theorem nk_79 : nkT Tryd.prog 79 = some .nkp := by kernel_rfl
theorem td_79 : tdat Tryd.prog 79 = some ⟨false, 1, 8, .pointer none⟩ := by kernel_rfl
theorem zv_79 : ofV (.pointer none) = .v (.pointer none) := by kernel_rfl
theorem td_80 : tdat Tryd.prog 80 = some ⟨true, 5, 56, .agg #[.int .i64 0, .int .i64 0, .string ⟨#[]⟩, .bool false, .nilIface]⟩ := by kernel_rfl
theorem zv_80 : ofV (.agg #[.int .i64 0, .int .i64 0, .string ⟨#[]⟩, .bool false, .nilIface]) = .ag [.v (.int .i64 0), .v (.int .i64 0), .v (.string ⟨#[]⟩), .v (.bool false), .v .nilIface] := by kernel_rfl
theorem tf_80 : tflds Tryd.prog 80 = some [(0, 2, true), (2, 1, false), (3, 1, false), (4, 1, false)] := by kernel_rfl
theorem td_81 : tdat Tryd.prog 81 = some ⟨true, 5, 56, .agg #[.int .i64 0, .int .i64 0, .string ⟨#[]⟩, .bool false, .nilIface]⟩ := by kernel_rfl
theorem zv_81 : ofV (.agg #[.int .i64 0, .int .i64 0, .string ⟨#[]⟩, .bool false, .nilIface]) = .ag [.v (.int .i64 0), .v (.int .i64 0), .v (.string ⟨#[]⟩), .v (.bool false), .v .nilIface] := by kernel_rfl
theorem tf_81 : tflds Tryd.prog 81 = some [(0, 2, true), (2, 1, false), (3, 1, false), (4, 1, false)] := by kernel_rfl
theorem nk_82 : nkT Tryd.prog 82 = some .nkf := by kernel_rfl
theorem nk_83 : nkT Tryd.prog 83 = some .nkp := by kernel_rfl
theorem td_83 : tdat Tryd.prog 83 = some ⟨false, 1, 8, .pointer none⟩ := by kernel_rfl
theorem zv_83 : ofV (.pointer none) = .v (.pointer none) := by kernel_rfl
theorem td_84 : tdat Tryd.prog 84 = some ⟨true, 1, 8, .agg #[.int .i64 0]⟩ := by kernel_rfl
theorem zv_84 : ofV (.agg #[.int .i64 0]) = .ag [.v (.int .i64 0)] := by kernel_rfl
theorem tf_84 : tflds Tryd.prog 84 = some [(0, 1, false)] := by kernel_rfl
theorem fl_84 : flat1 Tryd.prog 84 = some [.ski] := by kernel_rfl
theorem td_85 : tdat Tryd.prog 85 = some ⟨true, 1, 8, .agg #[.int .i64 0]⟩ := by kernel_rfl
theorem zv_85 : ofV (.agg #[.int .i64 0]) = .ag [.v (.int .i64 0)] := by kernel_rfl
theorem tf_85 : tflds Tryd.prog 85 = some [(0, 1, false)] := by kernel_rfl
theorem fl_85 : flat1 Tryd.prog 85 = some [.ski] := by kernel_rfl
theorem td_86 : tdat Tryd.prog 86 = some ⟨true, 4, 56, .agg #[.string ⟨#[]⟩, .slice none 0 0, .int .i64 0, .int .i64 0]⟩ := by kernel_rfl
theorem zv_86 : ofV (.agg #[.string ⟨#[]⟩, .slice none 0 0, .int .i64 0, .int .i64 0]) = .ag [.v (.string ⟨#[]⟩), .sl .full [], .v (.int .i64 0), .v (.int .i64 0)] := by kernel_rfl
theorem tf_86 : tflds Tryd.prog 86 = some [(0, 1, false), (1, 1, false), (2, 2, true)] := by kernel_rfl
theorem td_87 : tdat Tryd.prog 87 = some ⟨true, 4, 56, .agg #[.string ⟨#[]⟩, .slice none 0 0, .int .i64 0, .int .i64 0]⟩ := by kernel_rfl
theorem zv_87 : ofV (.agg #[.string ⟨#[]⟩, .slice none 0 0, .int .i64 0, .int .i64 0]) = .ag [.v (.string ⟨#[]⟩), .sl .full [], .v (.int .i64 0), .v (.int .i64 0)] := by kernel_rfl
theorem tf_87 : tflds Tryd.prog 87 = some [(0, 1, false), (1, 1, false), (2, 2, true)] := by kernel_rfl
theorem nk_88 : nkT Tryd.prog 88 = some .nkf := by kernel_rfl
theorem nk_89 : nkT Tryd.prog 89 = some .nkf := by kernel_rfl
theorem nk_90 : nkT Tryd.prog 90 = some .nkf := by kernel_rfl
theorem td_91 : tdat Tryd.prog 91 = some ⟨false, 1, 24, .slice none 0 0⟩ := by kernel_rfl
theorem zv_91 : ofV (.slice none 0 0) = .sl .full [] := by kernel_rfl
theorem tel_91 : tel Tryd.prog 91 = some 3 := by kernel_rfl
theorem nk_92 : nkT Tryd.prog 92 = some .nkf := by kernel_rfl
theorem nk_93 : nkT Tryd.prog 93 = some .nkf := by kernel_rfl
theorem nk_94 : nkT Tryd.prog 94 = some .nkf := by kernel_rfl
theorem nk_95 : nkT Tryd.prog 95 = some .nkf := by kernel_rfl
theorem nk_96 : nkT Tryd.prog 96 = some .nkf := by kernel_rfl
theorem nk_97 : nkT Tryd.prog 97 = some .nkf := by kernel_rfl
theorem td_98 : tdat Tryd.prog 98 = some ⟨true, 2, 16, .agg #[.int .i64 0, .int .i64 0]⟩ := by kernel_rfl
theorem zv_98 : ofV (.agg #[.int .i64 0, .int .i64 0]) = .ag [.v (.int .i64 0), .v (.int .i64 0)] := by kernel_rfl
theorem tf_98 : tflds Tryd.prog 98 = none := by kernel_rfl
theorem tel_98 : tel Tryd.prog 98 = none := by kernel_rfl
theorem ta_98 : tarr Tryd.prog 98 = some (2, 3) := by kernel_rfl
theorem td_99 : tdat Tryd.prog 99 = some ⟨false, 1, 8, .pointer none⟩ := by kernel_rfl
theorem zv_99 : ofV (.pointer none) = .v (.pointer none) := by kernel_rfl
theorem td_100 : tdat Tryd.prog 100 = some ⟨false, 1, 8, .int .u64 0⟩ := by kernel_rfl
theorem zv_100 : ofV (.int .u64 0) = .v (.int .u64 0) := by kernel_rfl
theorem td_101 : tdat Tryd.prog 101 = some ⟨true, 3, 24, .agg #[.pointer none, .pointer none, .int .u64 0]⟩ := by kernel_rfl
theorem zv_101 : ofV (.agg #[.pointer none, .pointer none, .int .u64 0]) = .ag [.v (.pointer none), .v (.pointer none), .v (.int .u64 0)] := by kernel_rfl
theorem tf_101 : tflds Tryd.prog 101 = some [(0, 1, false), (1, 1, false), (2, 1, false)] := by kernel_rfl
theorem td_102 : tdat Tryd.prog 102 = some ⟨true, 3, 24, .agg #[.pointer none, .pointer none, .int .u64 0]⟩ := by kernel_rfl
theorem zv_102 : ofV (.agg #[.pointer none, .pointer none, .int .u64 0]) = .ag [.v (.pointer none), .v (.pointer none), .v (.int .u64 0)] := by kernel_rfl
theorem tf_102 : tflds Tryd.prog 102 = some [(0, 1, false), (1, 1, false), (2, 1, false)] := by kernel_rfl
theorem nk_103 : nkT Tryd.prog 103 = some .nkf := by kernel_rfl
theorem nk_104 : nkT Tryd.prog 104 = some .nki := by kernel_rfl
theorem td_104 : tdat Tryd.prog 104 = some ⟨false, 1, 16, .nilIface⟩ := by kernel_rfl
theorem zv_104 : ofV (.nilIface) = .v .nilIface := by kernel_rfl
theorem nk_105 : nkT Tryd.prog 105 = some .nki := by kernel_rfl
theorem td_105 : tdat Tryd.prog 105 = some ⟨false, 1, 16, .nilIface⟩ := by kernel_rfl
theorem zv_105 : ofV (.nilIface) = .v .nilIface := by kernel_rfl
theorem nk_106 : nkT Tryd.prog 106 = some .nkf := by kernel_rfl
theorem td_107 : tdat Tryd.prog 107 = some ⟨false, 1, 1, .int .u8 0⟩ := by kernel_rfl
theorem zv_107 : ofV (.int .u8 0) = .v (.int .u8 0) := by kernel_rfl
theorem nk_108 : nkT Tryd.prog 108 = some .nkf := by kernel_rfl
theorem nk_109 : nkT Tryd.prog 109 = some .nkf := by kernel_rfl
theorem nk_110 : nkT Tryd.prog 110 = some .nkf := by kernel_rfl
theorem nk_111 : nkT Tryd.prog 111 = some .nkf := by kernel_rfl
theorem nk_112 : nkT Tryd.prog 112 = some .nkf := by kernel_rfl
theorem nk_113 : nkT Tryd.prog 113 = some .nkf := by kernel_rfl
theorem td_114 : tdat Tryd.prog 114 = some ⟨false, 1, 24, .slice none 0 0⟩ := by kernel_rfl
theorem zv_114 : ofV (.slice none 0 0) = .sl .full [] := by kernel_rfl
theorem tel_114 : tel Tryd.prog 114 = some 130 := by kernel_rfl
theorem td_115 : tdat Tryd.prog 115 = some ⟨true, 7, 128, .agg #[.string ⟨#[]⟩, .slice none 0 0, .slice none 0 0, .slice none 0 0, .slice none 0 0, .int .i64 0, .int .i64 0]⟩ := by kernel_rfl
theorem zv_115 : ofV (.agg #[.string ⟨#[]⟩, .slice none 0 0, .slice none 0 0, .slice none 0 0, .slice none 0 0, .int .i64 0, .int .i64 0]) = .ag [.v (.string ⟨#[]⟩), .sl .full [], .sl .full [], .sl .full [], .sl .full [], .v (.int .i64 0), .v (.int .i64 0)] := by kernel_rfl
theorem tf_115 : tflds Tryd.prog 115 = some [(0, 1, false), (1, 2, true), (3, 1, false), (4, 1, false), (5, 2, true)] := by kernel_rfl
theorem td_116 : tdat Tryd.prog 116 = some ⟨true, 7, 128, .agg #[.string ⟨#[]⟩, .slice none 0 0, .slice none 0 0, .slice none 0 0, .slice none 0 0, .int .i64 0, .int .i64 0]⟩ := by kernel_rfl
theorem zv_116 : ofV (.agg #[.string ⟨#[]⟩, .slice none 0 0, .slice none 0 0, .slice none 0 0, .slice none 0 0, .int .i64 0, .int .i64 0]) = .ag [.v (.string ⟨#[]⟩), .sl .full [], .sl .full [], .sl .full [], .sl .full [], .v (.int .i64 0), .v (.int .i64 0)] := by kernel_rfl
theorem tf_116 : tflds Tryd.prog 116 = some [(0, 1, false), (1, 2, true), (3, 1, false), (4, 1, false), (5, 2, true)] := by kernel_rfl
theorem nk_117 : nkT Tryd.prog 117 = some .nkf := by kernel_rfl
theorem td_118 : tdat Tryd.prog 118 = some ⟨false, 1, 24, .slice none 0 0⟩ := by kernel_rfl
theorem zv_118 : ofV (.slice none 0 0) = .sl .full [] := by kernel_rfl
theorem tel_118 : tel Tryd.prog 118 = some 50 := by kernel_rfl
theorem nk_119 : nkT Tryd.prog 119 = some .nkf := by kernel_rfl
theorem nk_120 : nkT Tryd.prog 120 = some .nkf := by kernel_rfl
theorem nk_121 : nkT Tryd.prog 121 = some .nkf := by kernel_rfl
theorem nk_122 : nkT Tryd.prog 122 = some .nkf := by kernel_rfl
theorem td_123 : tdat Tryd.prog 123 = some ⟨true, 2, 32, .agg #[.string ⟨#[]⟩, .string ⟨#[]⟩]⟩ := by kernel_rfl
theorem zv_123 : ofV (.agg #[.string ⟨#[]⟩, .string ⟨#[]⟩]) = .ag [.v (.string ⟨#[]⟩), .v (.string ⟨#[]⟩)] := by kernel_rfl
theorem tf_123 : tflds Tryd.prog 123 = some [(0, 1, false), (1, 1, false)] := by kernel_rfl
theorem fl_123 : flat1 Tryd.prog 123 = some [.sks, .sks] := by kernel_rfl
theorem td_124 : tdat Tryd.prog 124 = some ⟨true, 2, 32, .agg #[.string ⟨#[]⟩, .string ⟨#[]⟩]⟩ := by kernel_rfl
theorem zv_124 : ofV (.agg #[.string ⟨#[]⟩, .string ⟨#[]⟩]) = .ag [.v (.string ⟨#[]⟩), .v (.string ⟨#[]⟩)] := by kernel_rfl
theorem tf_124 : tflds Tryd.prog 124 = some [(0, 1, false), (1, 1, false)] := by kernel_rfl
theorem fl_124 : flat1 Tryd.prog 124 = some [.sks, .sks] := by kernel_rfl
theorem nk_125 : nkT Tryd.prog 125 = some .nkf := by kernel_rfl
theorem nk_126 : nkT Tryd.prog 126 = some .nkf := by kernel_rfl
theorem nk_127 : nkT Tryd.prog 127 = some .nkf := by kernel_rfl
theorem nk_128 : nkT Tryd.prog 128 = some .nkf := by kernel_rfl
theorem td_129 : tdat Tryd.prog 129 = some ⟨true, 12, 128, .agg #[.int .u8 0, .int .u8 0, .int .i32 0, .string ⟨#[]⟩, .slice none 0 0, .slice none 0 0, .int .i64 0, .int .i64 0, .string ⟨#[]⟩, .bool false, .int .i64 0, .int .i64 0]⟩ := by kernel_rfl
theorem zv_129 : ofV (.agg #[.int .u8 0, .int .u8 0, .int .i32 0, .string ⟨#[]⟩, .slice none 0 0, .slice none 0 0, .int .i64 0, .int .i64 0, .string ⟨#[]⟩, .bool false, .int .i64 0, .int .i64 0]) = .ag [.v (.int .u8 0), .v (.int .u8 0), .v (.int .i32 0), .v (.string ⟨#[]⟩), .sl .full [], .sl .full [], .v (.int .i64 0), .v (.int .i64 0), .v (.string ⟨#[]⟩), .v (.bool false), .v (.int .i64 0), .v (.int .i64 0)] := by kernel_rfl
theorem tf_129 : tflds Tryd.prog 129 = some [(0, 8, true), (8, 1, false), (9, 1, false), (10, 2, true)] := by kernel_rfl
theorem td_130 : tdat Tryd.prog 130 = some ⟨true, 12, 128, .agg #[.int .u8 0, .int .u8 0, .int .i32 0, .string ⟨#[]⟩, .slice none 0 0, .slice none 0 0, .int .i64 0, .int .i64 0, .string ⟨#[]⟩, .bool false, .int .i64 0, .int .i64 0]⟩ := by kernel_rfl
theorem zv_130 : ofV (.agg #[.int .u8 0, .int .u8 0, .int .i32 0, .string ⟨#[]⟩, .slice none 0 0, .slice none 0 0, .int .i64 0, .int .i64 0, .string ⟨#[]⟩, .bool false, .int .i64 0, .int .i64 0]) = .ag [.v (.int .u8 0), .v (.int .u8 0), .v (.int .i32 0), .v (.string ⟨#[]⟩), .sl .full [], .sl .full [], .v (.int .i64 0), .v (.int .i64 0), .v (.string ⟨#[]⟩), .v (.bool false), .v (.int .i64 0), .v (.int .i64 0)] := by kernel_rfl
theorem tf_130 : tflds Tryd.prog 130 = some [(0, 8, true), (8, 1, false), (9, 1, false), (10, 2, true)] := by kernel_rfl
theorem nk_131 : nkT Tryd.prog 131 = some .nkf := by kernel_rfl
theorem td_132 : tdat Tryd.prog 132 = some ⟨true, 1, 8, .agg #[.pointer none]⟩ := by kernel_rfl
theorem zv_132 : ofV (.agg #[.pointer none]) = .ag [.v (.pointer none)] := by kernel_rfl
theorem tf_132 : tflds Tryd.prog 132 = some [(0, 1, false)] := by kernel_rfl
theorem td_133 : tdat Tryd.prog 133 = some ⟨true, 1, 8, .agg #[.pointer none]⟩ := by kernel_rfl
theorem zv_133 : ofV (.agg #[.pointer none]) = .ag [.v (.pointer none)] := by kernel_rfl
theorem tf_133 : tflds Tryd.prog 133 = some [(0, 1, false)] := by kernel_rfl
theorem nk_134 : nkT Tryd.prog 134 = some .nkp := by kernel_rfl
theorem td_134 : tdat Tryd.prog 134 = some ⟨false, 1, 8, .pointer none⟩ := by kernel_rfl
theorem zv_134 : ofV (.pointer none) = .v (.pointer none) := by kernel_rfl
theorem nk_135 : nkT Tryd.prog 135 = some .nkf := by kernel_rfl
theorem nk_136 : nkT Tryd.prog 136 = some .nkf := by kernel_rfl
theorem nk_137 : nkT Tryd.prog 137 = some .nki := by kernel_rfl
theorem td_137 : tdat Tryd.prog 137 = some ⟨false, 1, 16, .nilIface⟩ := by kernel_rfl
theorem zv_137 : ofV (.nilIface) = .v .nilIface := by kernel_rfl
theorem nk_139 : nkT Tryd.prog 139 = some .nkf := by kernel_rfl
theorem nk_140 : nkT Tryd.prog 140 = some .nki := by kernel_rfl
theorem td_140 : tdat Tryd.prog 140 = some ⟨false, 1, 16, .nilIface⟩ := by kernel_rfl
theorem zv_140 : ofV (.nilIface) = .v .nilIface := by kernel_rfl
theorem nk_141 : nkT Tryd.prog 141 = some .nkf := by kernel_rfl
theorem nk_142 : nkT Tryd.prog 142 = some .nki := by kernel_rfl
theorem td_142 : tdat Tryd.prog 142 = some ⟨false, 1, 16, .nilIface⟩ := by kernel_rfl
theorem zv_142 : ofV (.nilIface) = .v .nilIface := by kernel_rfl
theorem td_143 : tdat Tryd.prog 143 = some ⟨false, 1, 24, .slice none 0 0⟩ := by kernel_rfl
theorem zv_143 : ofV (.slice none 0 0) = .sl .full [] := by kernel_rfl
theorem tel_143 : tel Tryd.prog 143 = some 31 := by kernel_rfl
theorem nk_144 : nkT Tryd.prog 144 = some .nkf := by kernel_rfl
theorem nk_145 : nkT Tryd.prog 145 = some .nki := by kernel_rfl
theorem td_145 : tdat Tryd.prog 145 = some ⟨false, 1, 16, .nilIface⟩ := by kernel_rfl
theorem zv_145 : ofV (.nilIface) = .v .nilIface := by kernel_rfl
theorem nk_147 : nkT Tryd.prog 147 = some .nkf := by kernel_rfl
theorem nk_148 : nkT Tryd.prog 148 = some .nkf := by kernel_rfl
theorem nk_149 : nkT Tryd.prog 149 = some .nkf := by kernel_rfl
theorem nk_150 : nkT Tryd.prog 150 = some .nkf := by kernel_rfl
theorem nk_151 : nkT Tryd.prog 151 = some .nkf := by kernel_rfl
theorem nk_152 : nkT Tryd.prog 152 = some .nkf := by kernel_rfl
theorem nk_153 : nkT Tryd.prog 153 = some .nkf := by kernel_rfl
theorem nk_154 : nkT Tryd.prog 154 = some .nkf := by kernel_rfl
theorem td_155 : tdat Tryd.prog 155 = some ⟨false, 1, 24, .slice none 0 0⟩ := by kernel_rfl
theorem zv_155 : ofV (.slice none 0 0) = .sl .full [] := by kernel_rfl
theorem tel_155 : tel Tryd.prog 155 = some 65 := by kernel_rfl
theorem nk_156 : nkT Tryd.prog 156 = some .nkf := by kernel_rfl
theorem nk_157 : nkT Tryd.prog 157 = some .nkf := by kernel_rfl
theorem nk_158 : nkT Tryd.prog 158 = some .nkf := by kernel_rfl
theorem nk_159 : nkT Tryd.prog 159 = some .nkf := by kernel_rfl
theorem nk_160 : nkT Tryd.prog 160 = some .nkf := by kernel_rfl
theorem nk_161 : nkT Tryd.prog 161 = some .nkf := by kernel_rfl
theorem nk_162 : nkT Tryd.prog 162 = some .nkf := by kernel_rfl
theorem nk_163 : nkT Tryd.prog 163 = some .nkf := by kernel_rfl
theorem nk_164 : nkT Tryd.prog 164 = some .nkf := by kernel_rfl
theorem td_165 : tdat Tryd.prog 165 = some ⟨true, 4, 40, .agg #[.pointer none, .pointer none, .pointer none, .string ⟨#[]⟩]⟩ := by kernel_rfl
theorem zv_165 : ofV (.agg #[.pointer none, .pointer none, .pointer none, .string ⟨#[]⟩]) = .ag [.v (.pointer none), .v (.pointer none), .v (.pointer none), .v (.string ⟨#[]⟩)] := by kernel_rfl
theorem tf_165 : tflds Tryd.prog 165 = some [(0, 1, false), (1, 1, false), (2, 1, false), (3, 1, false)] := by kernel_rfl
theorem td_166 : tdat Tryd.prog 166 = some ⟨true, 4, 40, .agg #[.pointer none, .pointer none, .pointer none, .string ⟨#[]⟩]⟩ := by kernel_rfl
theorem zv_166 : ofV (.agg #[.pointer none, .pointer none, .pointer none, .string ⟨#[]⟩]) = .ag [.v (.pointer none), .v (.pointer none), .v (.pointer none), .v (.string ⟨#[]⟩)] := by kernel_rfl
theorem tf_166 : tflds Tryd.prog 166 = some [(0, 1, false), (1, 1, false), (2, 1, false), (3, 1, false)] := by kernel_rfl
theorem td_167 : tdat Tryd.prog 167 = some ⟨true, 0, 0, .agg #[]⟩ := by kernel_rfl
theorem zv_167 : ofV (.agg #[]) = .ag [] := by kernel_rfl
theorem tf_167 : tflds Tryd.prog 167 = none := by kernel_rfl
theorem tel_167 : tel Tryd.prog 167 = none := by kernel_rfl
theorem ta_167 : tarr Tryd.prog 167 = some (0, 16) := by kernel_rfl
theorem td_168 : tdat Tryd.prog 168 = some ⟨true, 0, 0, .agg #[]⟩ := by kernel_rfl
theorem zv_168 : ofV (.agg #[]) = .ag [] := by kernel_rfl
theorem tf_168 : tflds Tryd.prog 168 = some [(0, 0, true)] := by kernel_rfl
theorem td_169 : tdat Tryd.prog 169 = some ⟨true, 0, 0, .agg #[]⟩ := by kernel_rfl
theorem zv_169 : ofV (.agg #[]) = .ag [] := by kernel_rfl
theorem tf_169 : tflds Tryd.prog 169 = some [(0, 0, true)] := by kernel_rfl
theorem nk_170 : nkT Tryd.prog 170 = some .nkf := by kernel_rfl
theorem nk_171 : nkT Tryd.prog 171 = some .nkf := by kernel_rfl
theorem td_172 : tdat Tryd.prog 172 = some ⟨false, 1, 4, .int .u32 0⟩ := by kernel_rfl
theorem zv_172 : ofV (.int .u32 0) = .v (.int .u32 0) := by kernel_rfl
theorem td_173 : tdat Tryd.prog 173 = some ⟨false, 1, 1, .int .u8 0⟩ := by kernel_rfl
theorem zv_173 : ofV (.int .u8 0) = .v (.int .u8 0) := by kernel_rfl
theorem nk_174 : nkT Tryd.prog 174 = some .nkf := by kernel_rfl
theorem nk_175 : nkT Tryd.prog 175 = some .nkp := by kernel_rfl
theorem td_175 : tdat Tryd.prog 175 = some ⟨false, 1, 8, .pointer none⟩ := by kernel_rfl
theorem zv_175 : ofV (.pointer none) = .v (.pointer none) := by kernel_rfl
theorem td_176 : tdat Tryd.prog 176 = some ⟨false, 1, 4, .int .i32 0⟩ := by kernel_rfl
theorem zv_176 : ofV (.int .i32 0) = .v (.int .i32 0) := by kernel_rfl
theorem td_177 : tdat Tryd.prog 177 = some ⟨false, 1, 4, .int .i32 0⟩ := by kernel_rfl
theorem zv_177 : ofV (.int .i32 0) = .v (.int .i32 0) := by kernel_rfl
theorem td_178 : tdat Tryd.prog 178 = some ⟨true, 11, 48, .agg #[.int .u64 0, .int .u64 0, .int .u32 0, .int .u8 0, .int .u8 0, .int .u8 0, .int .u8 0, .nilFunc, .pointer none, .int .i32 0, .int .i32 0]⟩ := by kernel_rfl
theorem zv_178 : ofV (.agg #[.int .u64 0, .int .u64 0, .int .u32 0, .int .u8 0, .int .u8 0, .int .u8 0, .int .u8 0, .nilFunc, .pointer none, .int .i32 0, .int .i32 0]) = .ag [.v (.int .u64 0), .v (.int .u64 0), .v (.int .u32 0), .v (.int .u8 0), .v (.int .u8 0), .v (.int .u8 0), .v (.int .u8 0), .v .nilFunc, .v (.pointer none), .v (.int .i32 0), .v (.int .i32 0)] := by kernel_rfl
theorem tf_178 : tflds Tryd.prog 178 = some [(0, 1, false), (1, 1, false), (2, 1, false), (3, 1, false), (4, 1, false), (5, 1, false), (6, 1, false), (7, 1, false), (8, 1, false), (9, 1, false), (10, 1, false)] := by kernel_rfl
theorem td_179 : tdat Tryd.prog 179 = some ⟨true, 11, 48, .agg #[.int .u64 0, .int .u64 0, .int .u32 0, .int .u8 0, .int .u8 0, .int .u8 0, .int .u8 0, .nilFunc, .pointer none, .int .i32 0, .int .i32 0]⟩ := by kernel_rfl
theorem zv_179 : ofV (.agg #[.int .u64 0, .int .u64 0, .int .u32 0, .int .u8 0, .int .u8 0, .int .u8 0, .int .u8 0, .nilFunc, .pointer none, .int .i32 0, .int .i32 0]) = .ag [.v (.int .u64 0), .v (.int .u64 0), .v (.int .u32 0), .v (.int .u8 0), .v (.int .u8 0), .v (.int .u8 0), .v (.int .u8 0), .v .nilFunc, .v (.pointer none), .v (.int .i32 0), .v (.int .i32 0)] := by kernel_rfl
theorem tf_179 : tflds Tryd.prog 179 = some [(0, 1, false), (1, 1, false), (2, 1, false), (3, 1, false), (4, 1, false), (5, 1, false), (6, 1, false), (7, 1, false), (8, 1, false), (9, 1, false), (10, 1, false)] := by kernel_rfl
theorem nk_180 : nkT Tryd.prog 180 = some .nkf := by kernel_rfl
theorem nk_181 : nkT Tryd.prog 181 = some .nkf := by kernel_rfl
theorem td_182 : tdat Tryd.prog 182 = some ⟨true, 2, 24, .agg #[.string ⟨#[]⟩, .int .u8 0]⟩ := by kernel_rfl
theorem zv_182 : ofV (.agg #[.string ⟨#[]⟩, .int .u8 0]) = .ag [.v (.string ⟨#[]⟩), .v (.int .u8 0)] := by kernel_rfl
theorem tf_182 : tflds Tryd.prog 182 = some [(0, 1, false), (1, 1, false)] := by kernel_rfl
theorem td_183 : tdat Tryd.prog 183 = some ⟨true, 2, 24, .agg #[.string ⟨#[]⟩, .int .u8 0]⟩ := by kernel_rfl
theorem zv_183 : ofV (.agg #[.string ⟨#[]⟩, .int .u8 0]) = .ag [.v (.string ⟨#[]⟩), .v (.int .u8 0)] := by kernel_rfl
theorem tf_183 : tflds Tryd.prog 183 = some [(0, 1, false), (1, 1, false)] := by kernel_rfl
theorem nk_184 : nkT Tryd.prog 184 = some .nkp := by kernel_rfl
theorem td_184 : tdat Tryd.prog 184 = some ⟨false, 1, 8, .pointer none⟩ := by kernel_rfl
theorem zv_184 : ofV (.pointer none) = .v (.pointer none) := by kernel_rfl
theorem nk_185 : nkT Tryd.prog 185 = some .nkf := by kernel_rfl
theorem td_186 : tdat Tryd.prog 186 = some ⟨false, 1, 2, .int .u16 0⟩ := by kernel_rfl
theorem zv_186 : ofV (.int .u16 0) = .v (.int .u16 0) := by kernel_rfl
theorem td_187 : tdat Tryd.prog 187 = some ⟨true, 5, 16, .agg #[.int .i32 0, .int .u16 0, .int .u16 0, .int .u32 0, .int .u32 0]⟩ := by kernel_rfl
theorem zv_187 : ofV (.agg #[.int .i32 0, .int .u16 0, .int .u16 0, .int .u32 0, .int .u32 0]) = .ag [.v (.int .i32 0), .v (.int .u16 0), .v (.int .u16 0), .v (.int .u32 0), .v (.int .u32 0)] := by kernel_rfl
theorem tf_187 : tflds Tryd.prog 187 = some [(0, 1, false), (1, 1, false), (2, 1, false), (3, 1, false), (4, 1, false)] := by kernel_rfl
theorem td_188 : tdat Tryd.prog 188 = some ⟨true, 5, 16, .agg #[.int .i32 0, .int .u16 0, .int .u16 0, .int .u32 0, .int .u32 0]⟩ := by kernel_rfl
theorem zv_188 : ofV (.agg #[.int .i32 0, .int .u16 0, .int .u16 0, .int .u32 0, .int .u32 0]) = .ag [.v (.int .i32 0), .v (.int .u16 0), .v (.int .u16 0), .v (.int .u32 0), .v (.int .u32 0)] := by kernel_rfl
theorem tf_188 : tflds Tryd.prog 188 = some [(0, 1, false), (1, 1, false), (2, 1, false), (3, 1, false), (4, 1, false)] := by kernel_rfl
theorem td_189 : tdat Tryd.prog 189 = some ⟨false, 1, 24, .slice none 0 0⟩ := by kernel_rfl
theorem zv_189 : ofV (.slice none 0 0) = .sl .full [] := by kernel_rfl
theorem tel_189 : tel Tryd.prog 189 = some 192 := by kernel_rfl
theorem td_190 : tdat Tryd.prog 190 = some ⟨false, 1, 4, .int .i32 0⟩ := by kernel_rfl
theorem zv_190 : ofV (.int .i32 0) = .v (.int .i32 0) := by kernel_rfl
theorem td_191 : tdat Tryd.prog 191 = some ⟨true, 4, 16, .agg #[.int .i32 0, .int .i32 0, .int .i32 0, .int .i32 0]⟩ := by kernel_rfl
theorem zv_191 : ofV (.agg #[.int .i32 0, .int .i32 0, .int .i32 0, .int .i32 0]) = .ag [.v (.int .i32 0), .v (.int .i32 0), .v (.int .i32 0), .v (.int .i32 0)] := by kernel_rfl
theorem tf_191 : tflds Tryd.prog 191 = some [(0, 1, false), (1, 1, false), (2, 1, false), (3, 1, false)] := by kernel_rfl
theorem td_192 : tdat Tryd.prog 192 = some ⟨true, 4, 16, .agg #[.int .i32 0, .int .i32 0, .int .i32 0, .int .i32 0]⟩ := by kernel_rfl
theorem zv_192 : ofV (.agg #[.int .i32 0, .int .i32 0, .int .i32 0, .int .i32 0]) = .ag [.v (.int .i32 0), .v (.int .i32 0), .v (.int .i32 0), .v (.int .i32 0)] := by kernel_rfl
theorem tf_192 : tflds Tryd.prog 192 = some [(0, 1, false), (1, 1, false), (2, 1, false), (3, 1, false)] := by kernel_rfl
theorem nk_193 : nkT Tryd.prog 193 = some .nkp := by kernel_rfl
theorem td_193 : tdat Tryd.prog 193 = some ⟨false, 1, 8, .pointer none⟩ := by kernel_rfl
theorem zv_193 : ofV (.pointer none) = .v (.pointer none) := by kernel_rfl
set_option linter.defProp false
def tfA0 := And.intro @nk_1 (And.intro @td_2 (And.intro @zv_2 (And.intro @Tryd.underlying2 (And.intro @td_3 (And.intro @zv_3 (And.intro @Tryd.underlying3 (And.intro @td_4 (And.intro @zv_4 (And.intro @Tryd.underlying4 (And.intro @td_5 (And.intro @zv_5 (And.intro @Tryd.underlying5 (And.intro @td_6 (And.intro @zv_6 (And.intro @Tryd.underlying6 (And.intro @td_7 (And.intro @zv_7 (And.intro @tf_7 (And.intro @td_8 (And.intro @zv_8 (And.intro @tf_8 (And.intro @td_9 (And.intro @zv_9 (And.intro @Tryd.underlying9 (And.intro @td_10 (And.intro @zv_10 (And.intro @Tryd.underlying10 (And.intro @td_11 @zv_11))))))))))))))))))))))))))))
def tfA1 := And.intro @Tryd.underlying11 (And.intro @td_12 (And.intro @zv_12 (And.intro @Tryd.underlying12 (And.intro @td_13 (And.intro @zv_13 (And.intro @tf_13 (And.intro @td_14 (And.intro @zv_14 (And.intro @tf_14 (And.intro @nk_15 (And.intro @td_15 (And.intro @zv_15 (And.intro @Tryd.underlying15 (And.intro @nk_16 (And.intro @td_16 (And.intro @zv_16 (And.intro @Tryd.underlying16 (And.intro @nk_17 (And.intro @td_17 (And.intro @zv_17 (And.intro @Tryd.underlying17 (And.intro @td_18 (And.intro @zv_18 (And.intro @tf_18 (And.intro @td_19 (And.intro @zv_19 (And.intro @tf_19 (And.intro @nk_20 @td_20))))))))))))))))))))))))))))
def tfA2 := And.intro @zv_20 (And.intro @td_21 (And.intro @zv_21 (And.intro @Tryd.underlying21 (And.intro @td_22 (And.intro @zv_22 (And.intro @tel_22 (And.intro @Tryd.underlying22 (And.intro @td_23 (And.intro @zv_23 (And.intro @tel_23 (And.intro @Tryd.underlying23 (And.intro @nk_24 (And.intro @td_25 (And.intro @zv_25 (And.intro @tel_25 (And.intro @Tryd.underlying25 (And.intro @td_26 (And.intro @zv_26 (And.intro @tel_26 (And.intro @Tryd.underlying26 (And.intro @td_27 (And.intro @zv_27 (And.intro @tf_27 (And.intro @td_28 (And.intro @zv_28 (And.intro @tf_28 (And.intro @nk_29 (And.intro @nk_30 @td_30))))))))))))))))))))))))))))
def tfA3 := And.intro @zv_30 (And.intro @nk_31 (And.intro @td_31 (And.intro @zv_31 (And.intro @nk_32 (And.intro @td_33 (And.intro @zv_33 (And.intro @tf_33 (And.intro @fl_33 (And.intro @td_34 (And.intro @zv_34 (And.intro @tf_34 (And.intro @fl_34 (And.intro @nk_36 (And.intro @nk_37 (And.intro @nk_38 (And.intro @td_39 (And.intro @zv_39 (And.intro @Tryd.underlying39 (And.intro @nk_40 (And.intro @td_41 (And.intro @zv_41 (And.intro @tf_41 (And.intro @fl_41 (And.intro @td_42 (And.intro @zv_42 (And.intro @tf_42 (And.intro @fl_42 (And.intro @td_43 @zv_43))))))))))))))))))))))))))))
def tfA4 := And.intro @tel_43 (And.intro @Tryd.underlying43 (And.intro @td_44 (And.intro @zv_44 (And.intro @tel_44 (And.intro @Tryd.underlying44 (And.intro @td_45 (And.intro @zv_45 (And.intro @tel_45 (And.intro @Tryd.underlying45 (And.intro @td_46 (And.intro @zv_46 (And.intro @tf_46 (And.intro @td_47 (And.intro @zv_47 (And.intro @tf_47 (And.intro @td_48 (And.intro @zv_48 (And.intro @tf_48 (And.intro @td_49 (And.intro @zv_49 (And.intro @tf_49 (And.intro @td_50 (And.intro @zv_50 (And.intro @tel_50 (And.intro @Tryd.underlying50 (And.intro @td_51 (And.intro @zv_51 (And.intro @tel_51 @Tryd.underlying51))))))))))))))))))))))))))))
def tfA5 := And.intro @td_52 (And.intro @zv_52 (And.intro @tf_52 (And.intro @td_53 (And.intro @zv_53 (And.intro @tf_53 (And.intro @td_54 (And.intro @zv_54 (And.intro @tf_54 (And.intro @td_55 (And.intro @zv_55 (And.intro @tf_55 (And.intro @td_56 (And.intro @zv_56 (And.intro @tel_56 (And.intro @Tryd.underlying56 (And.intro @td_57 (And.intro @zv_57 (And.intro @tf_57 (And.intro @td_58 (And.intro @zv_58 (And.intro @tf_58 (And.intro @nk_59 (And.intro @nk_60 (And.intro @td_60 (And.intro @zv_60 (And.intro @Tryd.underlying60 (And.intro @nk_61 (And.intro @td_62 @zv_62))))))))))))))))))))))))))))
def tfA6 := And.intro @tel_62 (And.intro @Tryd.underlying62 (And.intro @td_63 (And.intro @zv_63 (And.intro @tf_63 (And.intro @td_64 (And.intro @zv_64 (And.intro @tf_64 (And.intro @td_65 (And.intro @zv_65 (And.intro @tel_65 (And.intro @Tryd.underlying65 (And.intro @td_66 (And.intro @zv_66 (And.intro @tf_66 (And.intro @td_67 (And.intro @zv_67 (And.intro @tf_67 (And.intro @nk_68 (And.intro @nk_69 (And.intro @nk_70 (And.intro @td_70 (And.intro @zv_70 (And.intro @Tryd.underlying70 (And.intro @nk_71 (And.intro @td_72 (And.intro @zv_72 (And.intro @tel_72 (And.intro @Tryd.underlying72 @td_73))))))))))))))))))))))))))))
def tfA7 := And.intro @zv_73 (And.intro @tel_73 (And.intro @Tryd.underlying73 (And.intro @td_74 (And.intro @zv_74 (And.intro @tel_74 (And.intro @Tryd.underlying74 (And.intro @td_75 (And.intro @zv_75 (And.intro @tf_75 (And.intro @td_76 (And.intro @zv_76 (And.intro @tf_76 (And.intro @nk_77 (And.intro @td_77 (And.intro @zv_77 (And.intro @Tryd.underlying77 (And.intro @nk_78 (And.intro @nk_79 (And.intro @td_79 (And.intro @zv_79 (And.intro @Tryd.underlying79 (And.intro @td_80 (And.intro @zv_80 (And.intro @tf_80 (And.intro @td_81 (And.intro @zv_81 (And.intro @tf_81 (And.intro @nk_82 @nk_83))))))))))))))))))))))))))))
def tfA8 := And.intro @td_83 (And.intro @zv_83 (And.intro @Tryd.underlying83 (And.intro @td_84 (And.intro @zv_84 (And.intro @tf_84 (And.intro @fl_84 (And.intro @td_85 (And.intro @zv_85 (And.intro @tf_85 (And.intro @fl_85 (And.intro @td_86 (And.intro @zv_86 (And.intro @tf_86 (And.intro @td_87 (And.intro @zv_87 (And.intro @tf_87 (And.intro @nk_88 (And.intro @nk_89 (And.intro @nk_90 (And.intro @td_91 (And.intro @zv_91 (And.intro @tel_91 (And.intro @Tryd.underlying91 (And.intro @nk_92 (And.intro @nk_93 (And.intro @nk_94 (And.intro @nk_95 (And.intro @nk_96 @nk_97))))))))))))))))))))))))))))
def tfA9 := And.intro @td_98 (And.intro @zv_98 (And.intro @tf_98 (And.intro @tel_98 (And.intro @ta_98 (And.intro @Tryd.underlying98 (And.intro @td_99 (And.intro @zv_99 (And.intro @td_100 (And.intro @zv_100 (And.intro @Tryd.underlying100 (And.intro @td_101 (And.intro @zv_101 (And.intro @tf_101 (And.intro @td_102 (And.intro @zv_102 (And.intro @tf_102 (And.intro @nk_103 (And.intro @nk_104 (And.intro @td_104 (And.intro @zv_104 (And.intro @nk_105 (And.intro @td_105 (And.intro @zv_105 (And.intro @nk_106 (And.intro @td_107 (And.intro @zv_107 (And.intro @Tryd.underlying107 (And.intro @nk_108 @nk_109))))))))))))))))))))))))))))
def tfA10 := And.intro @nk_110 (And.intro @nk_111 (And.intro @nk_112 (And.intro @nk_113 (And.intro @td_114 (And.intro @zv_114 (And.intro @tel_114 (And.intro @Tryd.underlying114 (And.intro @td_115 (And.intro @zv_115 (And.intro @tf_115 (And.intro @td_116 (And.intro @zv_116 (And.intro @tf_116 (And.intro @nk_117 (And.intro @td_118 (And.intro @zv_118 (And.intro @tel_118 (And.intro @Tryd.underlying118 (And.intro @nk_119 (And.intro @nk_120 (And.intro @nk_121 (And.intro @nk_122 (And.intro @td_123 (And.intro @zv_123 (And.intro @tf_123 (And.intro @fl_123 (And.intro @td_124 (And.intro @zv_124 @tf_124))))))))))))))))))))))))))))
def tfA11 := And.intro @fl_124 (And.intro @nk_125 (And.intro @nk_126 (And.intro @nk_127 (And.intro @nk_128 (And.intro @td_129 (And.intro @zv_129 (And.intro @tf_129 (And.intro @td_130 (And.intro @zv_130 (And.intro @tf_130 (And.intro @nk_131 (And.intro @td_132 (And.intro @zv_132 (And.intro @tf_132 (And.intro @td_133 (And.intro @zv_133 (And.intro @tf_133 (And.intro @nk_134 (And.intro @td_134 (And.intro @zv_134 (And.intro @Tryd.underlying134 (And.intro @nk_135 (And.intro @nk_136 (And.intro @nk_137 (And.intro @td_137 (And.intro @zv_137 (And.intro @nk_139 (And.intro @nk_140 @td_140))))))))))))))))))))))))))))
def tfA12 := And.intro @zv_140 (And.intro @nk_141 (And.intro @nk_142 (And.intro @td_142 (And.intro @zv_142 (And.intro @td_143 (And.intro @zv_143 (And.intro @tel_143 (And.intro @Tryd.underlying143 (And.intro @nk_144 (And.intro @nk_145 (And.intro @td_145 (And.intro @zv_145 (And.intro @nk_147 (And.intro @nk_148 (And.intro @nk_149 (And.intro @nk_150 (And.intro @nk_151 (And.intro @nk_152 (And.intro @nk_153 (And.intro @nk_154 (And.intro @td_155 (And.intro @zv_155 (And.intro @tel_155 (And.intro @Tryd.underlying155 (And.intro @nk_156 (And.intro @nk_157 (And.intro @nk_158 (And.intro @nk_159 @nk_160))))))))))))))))))))))))))))
def tfA13 := And.intro @nk_161 (And.intro @nk_162 (And.intro @nk_163 (And.intro @nk_164 (And.intro @td_165 (And.intro @zv_165 (And.intro @tf_165 (And.intro @td_166 (And.intro @zv_166 (And.intro @tf_166 (And.intro @td_167 (And.intro @zv_167 (And.intro @tf_167 (And.intro @tel_167 (And.intro @ta_167 (And.intro @Tryd.underlying167 (And.intro @td_168 (And.intro @zv_168 (And.intro @tf_168 (And.intro @td_169 (And.intro @zv_169 (And.intro @tf_169 (And.intro @nk_170 (And.intro @nk_171 (And.intro @td_172 (And.intro @zv_172 (And.intro @Tryd.underlying172 (And.intro @td_173 (And.intro @zv_173 @Tryd.underlying173))))))))))))))))))))))))))))
def tfA14 := And.intro @nk_174 (And.intro @nk_175 (And.intro @td_175 (And.intro @zv_175 (And.intro @Tryd.underlying175 (And.intro @td_176 (And.intro @zv_176 (And.intro @Tryd.underlying176 (And.intro @td_177 (And.intro @zv_177 (And.intro @Tryd.underlying177 (And.intro @td_178 (And.intro @zv_178 (And.intro @tf_178 (And.intro @td_179 (And.intro @zv_179 (And.intro @tf_179 (And.intro @nk_180 (And.intro @nk_181 (And.intro @td_182 (And.intro @zv_182 (And.intro @tf_182 (And.intro @td_183 (And.intro @zv_183 (And.intro @tf_183 (And.intro @nk_184 (And.intro @td_184 (And.intro @zv_184 (And.intro @Tryd.underlying184 @nk_185))))))))))))))))))))))))))))
def tfA15 := And.intro @td_186 (And.intro @zv_186 (And.intro @Tryd.underlying186 (And.intro @td_187 (And.intro @zv_187 (And.intro @tf_187 (And.intro @td_188 (And.intro @zv_188 (And.intro @tf_188 (And.intro @td_189 (And.intro @zv_189 (And.intro @tel_189 (And.intro @Tryd.underlying189 (And.intro @td_190 (And.intro @zv_190 (And.intro @Tryd.underlying190 (And.intro @td_191 (And.intro @zv_191 (And.intro @tf_191 (And.intro @td_192 (And.intro @zv_192 (And.intro @tf_192 (And.intro @nk_193 (And.intro @td_193 (And.intro @zv_193 @Tryd.underlying193))))))))))))))))))))))))
def tfA := And.intro @tfA0 (And.intro @tfA1 (And.intro @tfA2 (And.intro @tfA3 (And.intro @tfA4 (And.intro @tfA5 (And.intro @tfA6 (And.intro @tfA7 (And.intro @tfA8 (And.intro @tfA9 (And.intro @tfA10 (And.intro @tfA11 (And.intro @tfA12 (And.intro @tfA13 (And.intro @tfA14 @tfA15))))))))))))))
end Go.Proofs.YtaealemhegdmpaaDoor
