/-
  Closed facts on the types of this seat.
-/
import Derived.Test.YtfemdelaciccmaaRows
import Derived.Test.YtfemdelaciccmaaAbFn
import Derived.KernelRfl
namespace Go.Proofs.Ytfemdelaciccmaa
open Go Go.RowKit
theorem ok_mix : Try.prog.follows .mixedOrders = true := by kernel_rfl
theorem nk_1 : nkT Try.prog 1 = some .nkf := by kernel_rfl
theorem td_2 : tdat Try.prog 2 = some ⟨false, 1, 8, .int .i64 0⟩ := by kernel_rfl
theorem zv_2 : ofV (.int .i64 0) = .v (.int .i64 0) := by kernel_rfl
theorem td_3 : tdat Try.prog 3 = some ⟨false, 1, 8, .int .i64 0⟩ := by kernel_rfl
theorem zv_3 : ofV (.int .i64 0) = .v (.int .i64 0) := by kernel_rfl
theorem td_4 : tdat Try.prog 4 = some ⟨false, 1, 1, .bool false⟩ := by kernel_rfl
theorem zv_4 : ofV (.bool false) = .v (.bool false) := by kernel_rfl
theorem td_5 : tdat Try.prog 5 = some ⟨false, 1, 1, .int .u8 0⟩ := by kernel_rfl
theorem zv_5 : ofV (.int .u8 0) = .v (.int .u8 0) := by kernel_rfl
theorem td_6 : tdat Try.prog 6 = some ⟨false, 1, 1, .int .u8 0⟩ := by kernel_rfl
theorem zv_6 : ofV (.int .u8 0) = .v (.int .u8 0) := by kernel_rfl
theorem td_7 : tdat Try.prog 7 = some ⟨true, 4, 24, .agg #[.int .i64 0, .int .i64 0, .bool false, .int .u8 0]⟩ := by kernel_rfl
theorem zv_7 : ofV (.agg #[.int .i64 0, .int .i64 0, .bool false, .int .u8 0]) = .ag [.v (.int .i64 0), .v (.int .i64 0), .v (.bool false), .v (.int .u8 0)] := by kernel_rfl
theorem tf_7 : tflds Try.prog 7 = some [(0, 1, false), (1, 1, false), (2, 1, false), (3, 1, false)] := by kernel_rfl
theorem td_8 : tdat Try.prog 8 = some ⟨true, 4, 24, .agg #[.int .i64 0, .int .i64 0, .bool false, .int .u8 0]⟩ := by kernel_rfl
theorem zv_8 : ofV (.agg #[.int .i64 0, .int .i64 0, .bool false, .int .u8 0]) = .ag [.v (.int .i64 0), .v (.int .i64 0), .v (.bool false), .v (.int .u8 0)] := by kernel_rfl
theorem tf_8 : tflds Try.prog 8 = some [(0, 1, false), (1, 1, false), (2, 1, false), (3, 1, false)] := by kernel_rfl
theorem td_9 : tdat Try.prog 9 = some ⟨false, 1, 16, .string ⟨#[]⟩⟩ := by kernel_rfl
theorem zv_9 : ofV (.string ⟨#[]⟩) = .v (.string ⟨#[]⟩) := by kernel_rfl
theorem td_10 : tdat Try.prog 10 = some ⟨false, 1, 16, .string ⟨#[]⟩⟩ := by kernel_rfl
theorem zv_10 : ofV (.string ⟨#[]⟩) = .v (.string ⟨#[]⟩) := by kernel_rfl
theorem td_11 : tdat Try.prog 11 = some ⟨false, 1, 16, .string ⟨#[]⟩⟩ := by kernel_rfl
theorem zv_11 : ofV (.string ⟨#[]⟩) = .v (.string ⟨#[]⟩) := by kernel_rfl
theorem td_12 : tdat Try.prog 12 = some ⟨false, 1, 8, .int .u64 0⟩ := by kernel_rfl
theorem zv_12 : ofV (.int .u64 0) = .v (.int .u64 0) := by kernel_rfl
theorem td_13 : tdat Try.prog 13 = some ⟨true, 2, 24, .agg #[.string ⟨#[]⟩, .int .u64 0]⟩ := by kernel_rfl
theorem zv_13 : ofV (.agg #[.string ⟨#[]⟩, .int .u64 0]) = .ag [.v (.string ⟨#[]⟩), .v (.int .u64 0)] := by kernel_rfl
theorem tf_13 : tflds Try.prog 13 = some [(0, 1, false), (1, 1, false)] := by kernel_rfl
theorem td_14 : tdat Try.prog 14 = some ⟨true, 2, 24, .agg #[.string ⟨#[]⟩, .int .u64 0]⟩ := by kernel_rfl
theorem zv_14 : ofV (.agg #[.string ⟨#[]⟩, .int .u64 0]) = .ag [.v (.string ⟨#[]⟩), .v (.int .u64 0)] := by kernel_rfl
theorem tf_14 : tflds Try.prog 14 = some [(0, 1, false), (1, 1, false)] := by kernel_rfl
theorem nk_15 : nkT Try.prog 15 = some .nkp := by kernel_rfl
theorem td_15 : tdat Try.prog 15 = some ⟨false, 1, 8, .pointer none⟩ := by kernel_rfl
theorem zv_15 : ofV (.pointer none) = .v (.pointer none) := by kernel_rfl
theorem nk_16 : nkT Try.prog 16 = some .nkp := by kernel_rfl
theorem td_16 : tdat Try.prog 16 = some ⟨false, 1, 8, .pointer none⟩ := by kernel_rfl
theorem zv_16 : ofV (.pointer none) = .v (.pointer none) := by kernel_rfl
theorem nk_17 : nkT Try.prog 17 = some .nkp := by kernel_rfl
theorem td_17 : tdat Try.prog 17 = some ⟨false, 1, 8, .pointer none⟩ := by kernel_rfl
theorem zv_17 : ofV (.pointer none) = .v (.pointer none) := by kernel_rfl
theorem td_18 : tdat Try.prog 18 = some ⟨true, 1, 8, .agg #[.pointer none]⟩ := by kernel_rfl
theorem zv_18 : ofV (.agg #[.pointer none]) = .ag [.v (.pointer none)] := by kernel_rfl
theorem tf_18 : tflds Try.prog 18 = some [(0, 1, false)] := by kernel_rfl
theorem td_19 : tdat Try.prog 19 = some ⟨true, 1, 8, .agg #[.pointer none]⟩ := by kernel_rfl
theorem zv_19 : ofV (.agg #[.pointer none]) = .ag [.v (.pointer none)] := by kernel_rfl
theorem tf_19 : tflds Try.prog 19 = some [(0, 1, false)] := by kernel_rfl
theorem nk_20 : nkT Try.prog 20 = some .nki := by kernel_rfl
theorem td_20 : tdat Try.prog 20 = some ⟨false, 1, 16, .nilIface⟩ := by kernel_rfl
theorem zv_20 : ofV (.nilIface) = .v .nilIface := by kernel_rfl
theorem td_21 : tdat Try.prog 21 = some ⟨false, 1, 4, .int .i32 0⟩ := by kernel_rfl
theorem zv_21 : ofV (.int .i32 0) = .v (.int .i32 0) := by kernel_rfl
theorem td_22 : tdat Try.prog 22 = some ⟨false, 1, 24, .slice none 0 0⟩ := by kernel_rfl
theorem zv_22 : ofV (.slice none 0 0) = .sl .full [] := by kernel_rfl
theorem tel_22 : tel Try.prog 22 = some 5 := by kernel_rfl
theorem nk_23 : nkT Try.prog 23 = some .nkf := by kernel_rfl
theorem nk_24 : nkT Try.prog 24 = some .nki := by kernel_rfl
theorem td_24 : tdat Try.prog 24 = some ⟨false, 1, 16, .nilIface⟩ := by kernel_rfl
theorem zv_24 : ofV (.nilIface) = .v .nilIface := by kernel_rfl
theorem nk_25 : nkT Try.prog 25 = some .nki := by kernel_rfl
theorem td_25 : tdat Try.prog 25 = some ⟨false, 1, 16, .nilIface⟩ := by kernel_rfl
theorem zv_25 : ofV (.nilIface) = .v .nilIface := by kernel_rfl
theorem nk_26 : nkT Try.prog 26 = some .nkf := by kernel_rfl
theorem td_27 : tdat Try.prog 27 = some ⟨false, 1, 24, .slice none 0 0⟩ := by kernel_rfl
theorem zv_27 : ofV (.slice none 0 0) = .sl .full [] := by kernel_rfl
theorem tel_27 : tel Try.prog 27 = some 67 := by kernel_rfl
theorem td_28 : tdat Try.prog 28 = some ⟨false, 1, 24, .slice none 0 0⟩ := by kernel_rfl
theorem zv_28 : ofV (.slice none 0 0) = .sl .full [] := by kernel_rfl
theorem tel_28 : tel Try.prog 28 = some 58 := by kernel_rfl
theorem td_29 : tdat Try.prog 29 = some ⟨true, 2, 48, .agg #[.slice none 0 0, .slice none 0 0]⟩ := by kernel_rfl
theorem zv_29 : ofV (.agg #[.slice none 0 0, .slice none 0 0]) = .ag [.sl .full [], .sl .full []] := by kernel_rfl
theorem tf_29 : tflds Try.prog 29 = some [(0, 1, false), (1, 1, false)] := by kernel_rfl
theorem td_30 : tdat Try.prog 30 = some ⟨true, 2, 48, .agg #[.slice none 0 0, .slice none 0 0]⟩ := by kernel_rfl
theorem zv_30 : ofV (.agg #[.slice none 0 0, .slice none 0 0]) = .ag [.sl .full [], .sl .full []] := by kernel_rfl
theorem tf_30 : tflds Try.prog 30 = some [(0, 1, false), (1, 1, false)] := by kernel_rfl
theorem nk_31 : nkT Try.prog 31 = some .nkf := by kernel_rfl
theorem nk_32 : nkT Try.prog 32 = some .nkf := by kernel_rfl
theorem td_33 : tdat Try.prog 33 = some ⟨false, 1, 24, .slice none 0 0⟩ := by kernel_rfl
theorem zv_33 : ofV (.slice none 0 0) = .sl .full [] := by kernel_rfl
theorem tel_33 : tel Try.prog 33 = some 51 := by kernel_rfl
theorem td_34 : tdat Try.prog 34 = some ⟨false, 1, 24, .slice none 0 0⟩ := by kernel_rfl
theorem zv_34 : ofV (.slice none 0 0) = .sl .full [] := by kernel_rfl
theorem tel_34 : tel Try.prog 34 = some 75 := by kernel_rfl
theorem td_35 : tdat Try.prog 35 = some ⟨true, 2, 48, .agg #[.slice none 0 0, .slice none 0 0]⟩ := by kernel_rfl
theorem zv_35 : ofV (.agg #[.slice none 0 0, .slice none 0 0]) = .ag [.sl .full [], .sl .full []] := by kernel_rfl
theorem tf_35 : tflds Try.prog 35 = some [(0, 1, false), (1, 1, false)] := by kernel_rfl
theorem td_36 : tdat Try.prog 36 = some ⟨true, 2, 48, .agg #[.slice none 0 0, .slice none 0 0]⟩ := by kernel_rfl
theorem zv_36 : ofV (.agg #[.slice none 0 0, .slice none 0 0]) = .ag [.sl .full [], .sl .full []] := by kernel_rfl
theorem tf_36 : tflds Try.prog 36 = some [(0, 1, false), (1, 1, false)] := by kernel_rfl
theorem nk_37 : nkT Try.prog 37 = some .nkf := by kernel_rfl
theorem td_38 : tdat Try.prog 38 = some ⟨false, 1, 24, .slice none 0 0⟩ := by kernel_rfl
theorem zv_38 : ofV (.slice none 0 0) = .sl .full [] := by kernel_rfl
theorem tel_38 : tel Try.prog 38 = some 9 := by kernel_rfl
theorem nk_39 : nkT Try.prog 39 = some .nkf := by kernel_rfl
theorem nk_40 : nkT Try.prog 40 = some .nkf := by kernel_rfl
theorem nk_41 : nkT Try.prog 41 = some .nkf := by kernel_rfl
theorem td_42 : tdat Try.prog 42 = some ⟨true, 2, 24, .agg #[.int .u8 0, .string ⟨#[]⟩]⟩ := by kernel_rfl
theorem zv_42 : ofV (.agg #[.int .u8 0, .string ⟨#[]⟩]) = .ag [.v (.int .u8 0), .v (.string ⟨#[]⟩)] := by kernel_rfl
theorem tf_42 : tflds Try.prog 42 = some [(0, 1, false), (1, 1, false)] := by kernel_rfl
theorem fl_42 : flat1 Try.prog 42 = some [.ski, .sks] := by kernel_rfl
theorem td_43 : tdat Try.prog 43 = some ⟨true, 2, 24, .agg #[.int .u8 0, .string ⟨#[]⟩]⟩ := by kernel_rfl
theorem zv_43 : ofV (.agg #[.int .u8 0, .string ⟨#[]⟩]) = .ag [.v (.int .u8 0), .v (.string ⟨#[]⟩)] := by kernel_rfl
theorem tf_43 : tflds Try.prog 43 = some [(0, 1, false), (1, 1, false)] := by kernel_rfl
theorem fl_43 : flat1 Try.prog 43 = some [.ski, .sks] := by kernel_rfl
theorem td_44 : tdat Try.prog 44 = some ⟨false, 1, 24, .slice none 0 0⟩ := by kernel_rfl
theorem zv_44 : ofV (.slice none 0 0) = .sl .full [] := by kernel_rfl
theorem tel_44 : tel Try.prog 44 = some 147 := by kernel_rfl
theorem td_45 : tdat Try.prog 45 = some ⟨false, 1, 24, .slice none 0 0⟩ := by kernel_rfl
theorem zv_45 : ofV (.slice none 0 0) = .sl .full [] := by kernel_rfl
theorem tel_45 : tel Try.prog 45 = some 49 := by kernel_rfl
theorem td_46 : tdat Try.prog 46 = some ⟨true, 2, 16, .agg #[.int .i64 0, .int .i64 0]⟩ := by kernel_rfl
theorem zv_46 : ofV (.agg #[.int .i64 0, .int .i64 0]) = .ag [.v (.int .i64 0), .v (.int .i64 0)] := by kernel_rfl
theorem tf_46 : tflds Try.prog 46 = some [(0, 1, false), (1, 1, false)] := by kernel_rfl
theorem fl_46 : flat1 Try.prog 46 = some [.ski, .ski] := by kernel_rfl
theorem td_47 : tdat Try.prog 47 = some ⟨true, 2, 16, .agg #[.int .i64 0, .int .i64 0]⟩ := by kernel_rfl
theorem zv_47 : ofV (.agg #[.int .i64 0, .int .i64 0]) = .ag [.v (.int .i64 0), .v (.int .i64 0)] := by kernel_rfl
theorem tf_47 : tflds Try.prog 47 = some [(0, 1, false), (1, 1, false)] := by kernel_rfl
theorem fl_47 : flat1 Try.prog 47 = some [.ski, .ski] := by kernel_rfl
theorem td_48 : tdat Try.prog 48 = some ⟨true, 8, 88, .agg #[.int .u8 0, .int .u8 0, .int .i32 0, .string ⟨#[]⟩, .slice none 0 0, .slice none 0 0, .int .i64 0, .int .i64 0]⟩ := by kernel_rfl
theorem zv_48 : ofV (.agg #[.int .u8 0, .int .u8 0, .int .i32 0, .string ⟨#[]⟩, .slice none 0 0, .slice none 0 0, .int .i64 0, .int .i64 0]) = .ag [.v (.int .u8 0), .v (.int .u8 0), .v (.int .i32 0), .v (.string ⟨#[]⟩), .sl .full [], .sl .full [], .v (.int .i64 0), .v (.int .i64 0)] := by kernel_rfl
theorem tf_48 : tflds Try.prog 48 = some [(0, 1, false), (1, 1, false), (2, 1, false), (3, 1, false), (4, 1, false), (5, 1, false), (6, 2, true)] := by kernel_rfl
theorem td_49 : tdat Try.prog 49 = some ⟨true, 8, 88, .agg #[.int .u8 0, .int .u8 0, .int .i32 0, .string ⟨#[]⟩, .slice none 0 0, .slice none 0 0, .int .i64 0, .int .i64 0]⟩ := by kernel_rfl
theorem zv_49 : ofV (.agg #[.int .u8 0, .int .u8 0, .int .i32 0, .string ⟨#[]⟩, .slice none 0 0, .slice none 0 0, .int .i64 0, .int .i64 0]) = .ag [.v (.int .u8 0), .v (.int .u8 0), .v (.int .i32 0), .v (.string ⟨#[]⟩), .sl .full [], .sl .full [], .v (.int .i64 0), .v (.int .i64 0)] := by kernel_rfl
theorem tf_49 : tflds Try.prog 49 = some [(0, 1, false), (1, 1, false), (2, 1, false), (3, 1, false), (4, 1, false), (5, 1, false), (6, 2, true)] := by kernel_rfl
theorem td_50 : tdat Try.prog 50 = some ⟨true, 15, 176, .agg #[.string ⟨#[]⟩, .int .u8 0, .string ⟨#[]⟩, .slice none 0 0, .bool false, .int .u8 0, .int .u8 0, .int .i32 0, .string ⟨#[]⟩, .slice none 0 0, .slice none 0 0, .int .i64 0, .int .i64 0, .int .i64 0, .int .i64 0]⟩ := by kernel_rfl
theorem zv_50 : ofV (.agg #[.string ⟨#[]⟩, .int .u8 0, .string ⟨#[]⟩, .slice none 0 0, .bool false, .int .u8 0, .int .u8 0, .int .i32 0, .string ⟨#[]⟩, .slice none 0 0, .slice none 0 0, .int .i64 0, .int .i64 0, .int .i64 0, .int .i64 0]) = .ag [.v (.string ⟨#[]⟩), .v (.int .u8 0), .v (.string ⟨#[]⟩), .sl .full [], .v (.bool false), .v (.int .u8 0), .v (.int .u8 0), .v (.int .i32 0), .v (.string ⟨#[]⟩), .sl .full [], .sl .full [], .v (.int .i64 0), .v (.int .i64 0), .v (.int .i64 0), .v (.int .i64 0)] := by kernel_rfl
theorem tf_50 : tflds Try.prog 50 = some [(0, 1, false), (1, 2, true), (3, 1, false), (4, 1, false), (5, 8, true), (13, 2, true)] := by kernel_rfl
theorem td_51 : tdat Try.prog 51 = some ⟨true, 15, 176, .agg #[.string ⟨#[]⟩, .int .u8 0, .string ⟨#[]⟩, .slice none 0 0, .bool false, .int .u8 0, .int .u8 0, .int .i32 0, .string ⟨#[]⟩, .slice none 0 0, .slice none 0 0, .int .i64 0, .int .i64 0, .int .i64 0, .int .i64 0]⟩ := by kernel_rfl
theorem zv_51 : ofV (.agg #[.string ⟨#[]⟩, .int .u8 0, .string ⟨#[]⟩, .slice none 0 0, .bool false, .int .u8 0, .int .u8 0, .int .i32 0, .string ⟨#[]⟩, .slice none 0 0, .slice none 0 0, .int .i64 0, .int .i64 0, .int .i64 0, .int .i64 0]) = .ag [.v (.string ⟨#[]⟩), .v (.int .u8 0), .v (.string ⟨#[]⟩), .sl .full [], .v (.bool false), .v (.int .u8 0), .v (.int .u8 0), .v (.int .i32 0), .v (.string ⟨#[]⟩), .sl .full [], .sl .full [], .v (.int .i64 0), .v (.int .i64 0), .v (.int .i64 0), .v (.int .i64 0)] := by kernel_rfl
theorem tf_51 : tflds Try.prog 51 = some [(0, 1, false), (1, 2, true), (3, 1, false), (4, 1, false), (5, 8, true), (13, 2, true)] := by kernel_rfl
theorem nk_52 : nkT Try.prog 52 = some .nkf := by kernel_rfl
theorem td_53 : tdat Try.prog 53 = some ⟨false, 1, 8, .int .i64 0⟩ := by kernel_rfl
theorem zv_53 : ofV (.int .i64 0) = .v (.int .i64 0) := by kernel_rfl
theorem nk_54 : nkT Try.prog 54 = some .nkf := by kernel_rfl
theorem td_55 : tdat Try.prog 55 = some ⟨true, 1, 16, .agg #[.nilIface]⟩ := by kernel_rfl
theorem zv_55 : ofV (.agg #[.nilIface]) = .ag [.v .nilIface] := by kernel_rfl
theorem tf_55 : tflds Try.prog 55 = some [(0, 1, false)] := by kernel_rfl
theorem td_56 : tdat Try.prog 56 = some ⟨true, 1, 16, .agg #[.nilIface]⟩ := by kernel_rfl
theorem zv_56 : ofV (.agg #[.nilIface]) = .ag [.v .nilIface] := by kernel_rfl
theorem tf_56 : tflds Try.prog 56 = some [(0, 1, false)] := by kernel_rfl
theorem td_57 : tdat Try.prog 57 = some ⟨true, 7, 128, .agg #[.string ⟨#[]⟩, .slice none 0 0, .slice none 0 0, .slice none 0 0, .slice none 0 0, .int .i64 0, .int .i64 0]⟩ := by kernel_rfl
theorem zv_57 : ofV (.agg #[.string ⟨#[]⟩, .slice none 0 0, .slice none 0 0, .slice none 0 0, .slice none 0 0, .int .i64 0, .int .i64 0]) = .ag [.v (.string ⟨#[]⟩), .sl .full [], .sl .full [], .sl .full [], .sl .full [], .v (.int .i64 0), .v (.int .i64 0)] := by kernel_rfl
theorem tf_57 : tflds Try.prog 57 = some [(0, 1, false), (1, 1, false), (2, 1, false), (3, 2, true), (5, 2, true)] := by kernel_rfl
theorem td_58 : tdat Try.prog 58 = some ⟨true, 7, 128, .agg #[.string ⟨#[]⟩, .slice none 0 0, .slice none 0 0, .slice none 0 0, .slice none 0 0, .int .i64 0, .int .i64 0]⟩ := by kernel_rfl
theorem zv_58 : ofV (.agg #[.string ⟨#[]⟩, .slice none 0 0, .slice none 0 0, .slice none 0 0, .slice none 0 0, .int .i64 0, .int .i64 0]) = .ag [.v (.string ⟨#[]⟩), .sl .full [], .sl .full [], .sl .full [], .sl .full [], .v (.int .i64 0), .v (.int .i64 0)] := by kernel_rfl
theorem tf_58 : tflds Try.prog 58 = some [(0, 1, false), (1, 1, false), (2, 1, false), (3, 2, true), (5, 2, true)] := by kernel_rfl
theorem td_59 : tdat Try.prog 59 = some ⟨false, 1, 8, .map none⟩ := by kernel_rfl
theorem zv_59 : ofV (.map none) = .v (.map none) := by kernel_rfl
theorem td_60 : tdat Try.prog 60 = some ⟨false, 1, 8, .map none⟩ := by kernel_rfl
theorem zv_60 : ofV (.map none) = .v (.map none) := by kernel_rfl
theorem nk_61 : nkT Try.prog 61 = some .nkf := by kernel_rfl
theorem nk_62 : nkT Try.prog 62 = some .nkf := by kernel_rfl
theorem nk_63 : nkT Try.prog 63 = some .nkp := by kernel_rfl
theorem td_63 : tdat Try.prog 63 = some ⟨false, 1, 8, .pointer none⟩ := by kernel_rfl
theorem zv_63 : ofV (.pointer none) = .v (.pointer none) := by kernel_rfl
theorem td_64 : tdat Try.prog 64 = some ⟨true, 2, 32, .agg #[.slice none 0 0, .int .i64 0]⟩ := by kernel_rfl
theorem zv_64 : ofV (.agg #[.slice none 0 0, .int .i64 0]) = .ag [.sl .full [], .v (.int .i64 0)] := by kernel_rfl
theorem tf_64 : tflds Try.prog 64 = some [(0, 1, false), (1, 1, false)] := by kernel_rfl
theorem td_65 : tdat Try.prog 65 = some ⟨true, 2, 32, .agg #[.slice none 0 0, .int .i64 0]⟩ := by kernel_rfl
theorem zv_65 : ofV (.agg #[.slice none 0 0, .int .i64 0]) = .ag [.sl .full [], .v (.int .i64 0)] := by kernel_rfl
theorem tf_65 : tflds Try.prog 65 = some [(0, 1, false), (1, 1, false)] := by kernel_rfl
theorem td_66 : tdat Try.prog 66 = some ⟨true, 4, 56, .agg #[.string ⟨#[]⟩, .slice none 0 0, .int .i64 0, .int .i64 0]⟩ := by kernel_rfl
theorem zv_66 : ofV (.agg #[.string ⟨#[]⟩, .slice none 0 0, .int .i64 0, .int .i64 0]) = .ag [.v (.string ⟨#[]⟩), .sl .full [], .v (.int .i64 0), .v (.int .i64 0)] := by kernel_rfl
theorem tf_66 : tflds Try.prog 66 = some [(0, 1, false), (1, 1, false), (2, 2, true)] := by kernel_rfl
theorem td_67 : tdat Try.prog 67 = some ⟨true, 4, 56, .agg #[.string ⟨#[]⟩, .slice none 0 0, .int .i64 0, .int .i64 0]⟩ := by kernel_rfl
theorem zv_67 : ofV (.agg #[.string ⟨#[]⟩, .slice none 0 0, .int .i64 0, .int .i64 0]) = .ag [.v (.string ⟨#[]⟩), .sl .full [], .v (.int .i64 0), .v (.int .i64 0)] := by kernel_rfl
theorem tf_67 : tflds Try.prog 67 = some [(0, 1, false), (1, 1, false), (2, 2, true)] := by kernel_rfl
theorem nk_68 : nkT Try.prog 68 = some .nkf := by kernel_rfl
theorem nk_69 : nkT Try.prog 69 = some .nkp := by kernel_rfl
theorem td_69 : tdat Try.prog 69 = some ⟨false, 1, 8, .pointer none⟩ := by kernel_rfl
theorem zv_69 : ofV (.pointer none) = .v (.pointer none) := by kernel_rfl
theorem td_70 : tdat Try.prog 70 = some ⟨true, 5, 40, .agg #[.pointer none, .int .i64 0, .int .i64 0, .int .i64 0, .bool false]⟩ := by kernel_rfl
theorem zv_70 : ofV (.agg #[.pointer none, .int .i64 0, .int .i64 0, .int .i64 0, .bool false]) = .ag [.v (.pointer none), .v (.int .i64 0), .v (.int .i64 0), .v (.int .i64 0), .v (.bool false)] := by kernel_rfl
theorem tf_70 : tflds Try.prog 70 = some [(0, 1, false), (1, 1, false), (2, 1, false), (3, 1, false), (4, 1, false)] := by kernel_rfl
theorem td_71 : tdat Try.prog 71 = some ⟨true, 5, 40, .agg #[.pointer none, .int .i64 0, .int .i64 0, .int .i64 0, .bool false]⟩ := by kernel_rfl
theorem zv_71 : ofV (.agg #[.pointer none, .int .i64 0, .int .i64 0, .int .i64 0, .bool false]) = .ag [.v (.pointer none), .v (.int .i64 0), .v (.int .i64 0), .v (.int .i64 0), .v (.bool false)] := by kernel_rfl
theorem tf_71 : tflds Try.prog 71 = some [(0, 1, false), (1, 1, false), (2, 1, false), (3, 1, false), (4, 1, false)] := by kernel_rfl
theorem nk_72 : nkT Try.prog 72 = some .nkf := by kernel_rfl
theorem td_73 : tdat Try.prog 73 = some ⟨false, 1, 24, .slice none 0 0⟩ := by kernel_rfl
theorem zv_73 : ofV (.slice none 0 0) = .sl .full [] := by kernel_rfl
theorem tel_73 : tel Try.prog 73 = some 109 := by kernel_rfl
theorem td_74 : tdat Try.prog 74 = some ⟨true, 16, 208, .agg #[.int .u8 0, .slice none 0 0, .string ⟨#[]⟩, .slice none 0 0, .bool false, .int .u8 0, .int .u8 0, .int .i32 0, .string ⟨#[]⟩, .slice none 0 0, .slice none 0 0, .int .i64 0, .int .i64 0, .slice none 0 0, .int .i64 0, .int .i64 0]⟩ := by kernel_rfl
theorem zv_74 : ofV (.agg #[.int .u8 0, .slice none 0 0, .string ⟨#[]⟩, .slice none 0 0, .bool false, .int .u8 0, .int .u8 0, .int .i32 0, .string ⟨#[]⟩, .slice none 0 0, .slice none 0 0, .int .i64 0, .int .i64 0, .slice none 0 0, .int .i64 0, .int .i64 0]) = .ag [.v (.int .u8 0), .sl .full [], .v (.string ⟨#[]⟩), .sl .full [], .v (.bool false), .v (.int .u8 0), .v (.int .u8 0), .v (.int .i32 0), .v (.string ⟨#[]⟩), .sl .full [], .sl .full [], .v (.int .i64 0), .v (.int .i64 0), .sl .full [], .v (.int .i64 0), .v (.int .i64 0)] := by kernel_rfl
theorem tf_74 : tflds Try.prog 74 = some [(0, 1, false), (1, 1, false), (2, 1, false), (3, 1, false), (4, 1, false), (5, 8, true), (13, 1, false), (14, 2, true)] := by kernel_rfl
theorem td_75 : tdat Try.prog 75 = some ⟨true, 16, 208, .agg #[.int .u8 0, .slice none 0 0, .string ⟨#[]⟩, .slice none 0 0, .bool false, .int .u8 0, .int .u8 0, .int .i32 0, .string ⟨#[]⟩, .slice none 0 0, .slice none 0 0, .int .i64 0, .int .i64 0, .slice none 0 0, .int .i64 0, .int .i64 0]⟩ := by kernel_rfl
theorem zv_75 : ofV (.agg #[.int .u8 0, .slice none 0 0, .string ⟨#[]⟩, .slice none 0 0, .bool false, .int .u8 0, .int .u8 0, .int .i32 0, .string ⟨#[]⟩, .slice none 0 0, .slice none 0 0, .int .i64 0, .int .i64 0, .slice none 0 0, .int .i64 0, .int .i64 0]) = .ag [.v (.int .u8 0), .sl .full [], .v (.string ⟨#[]⟩), .sl .full [], .v (.bool false), .v (.int .u8 0), .v (.int .u8 0), .v (.int .i32 0), .v (.string ⟨#[]⟩), .sl .full [], .sl .full [], .v (.int .i64 0), .v (.int .i64 0), .sl .full [], .v (.int .i64 0), .v (.int .i64 0)] := by kernel_rfl
theorem tf_75 : tflds Try.prog 75 = some [(0, 1, false), (1, 1, false), (2, 1, false), (3, 1, false), (4, 1, false), (5, 8, true), (13, 1, false), (14, 2, true)] := by kernel_rfl
theorem nk_76 : nkT Try.prog 76 = some .nkf := by kernel_rfl
theorem nk_77 : nkT Try.prog 77 = some .nkf := by kernel_rfl
theorem nk_78 : nkT Try.prog 78 = some .nkf := by kernel_rfl
theorem nk_79 : nkT Try.prog 79 = some .nkf := by kernel_rfl
theorem nk_80 : nkT Try.prog 80 = some .nkf := by kernel_rfl
theorem td_81 : tdat Try.prog 81 = some ⟨false, 1, 24, .slice none 0 0⟩ := by kernel_rfl
theorem zv_81 : ofV (.slice none 0 0) = .sl .full [] := by kernel_rfl
theorem tel_81 : tel Try.prog 81 = some 33 := by kernel_rfl
theorem nk_82 : nkT Try.prog 82 = some .nkf := by kernel_rfl
theorem nk_83 : nkT Try.prog 83 = some .nkf := by kernel_rfl
theorem nk_84 : nkT Try.prog 84 = some .nkf := by kernel_rfl
theorem nk_85 : nkT Try.prog 85 = some .nkf := by kernel_rfl
theorem nk_86 : nkT Try.prog 86 = some .nkf := by kernel_rfl
theorem nk_87 : nkT Try.prog 87 = some .nkf := by kernel_rfl
theorem nk_88 : nkT Try.prog 88 = some .nkf := by kernel_rfl
theorem nk_89 : nkT Try.prog 89 = some .nkf := by kernel_rfl
theorem td_90 : tdat Try.prog 90 = some ⟨true, 3, 72, .agg #[.slice none 0 0, .slice none 0 0, .slice none 0 0]⟩ := by kernel_rfl
theorem zv_90 : ofV (.agg #[.slice none 0 0, .slice none 0 0, .slice none 0 0]) = .ag [.sl .full [], .sl .full [], .sl .full []] := by kernel_rfl
theorem tf_90 : tflds Try.prog 90 = some [(0, 1, false), (1, 1, false), (2, 1, false)] := by kernel_rfl
theorem td_91 : tdat Try.prog 91 = some ⟨true, 3, 72, .agg #[.slice none 0 0, .slice none 0 0, .slice none 0 0]⟩ := by kernel_rfl
theorem zv_91 : ofV (.agg #[.slice none 0 0, .slice none 0 0, .slice none 0 0]) = .ag [.sl .full [], .sl .full [], .sl .full []] := by kernel_rfl
theorem tf_91 : tflds Try.prog 91 = some [(0, 1, false), (1, 1, false), (2, 1, false)] := by kernel_rfl
theorem nk_92 : nkT Try.prog 92 = some .nkf := by kernel_rfl
theorem nk_93 : nkT Try.prog 93 = some .nkf := by kernel_rfl
theorem nk_94 : nkT Try.prog 94 = some .nkp := by kernel_rfl
theorem td_94 : tdat Try.prog 94 = some ⟨false, 1, 8, .pointer none⟩ := by kernel_rfl
theorem zv_94 : ofV (.pointer none) = .v (.pointer none) := by kernel_rfl
theorem td_95 : tdat Try.prog 95 = some ⟨true, 1, 8, .agg #[.int .i64 0]⟩ := by kernel_rfl
theorem zv_95 : ofV (.agg #[.int .i64 0]) = .ag [.v (.int .i64 0)] := by kernel_rfl
theorem tf_95 : tflds Try.prog 95 = some [(0, 1, false)] := by kernel_rfl
theorem fl_95 : flat1 Try.prog 95 = some [.ski] := by kernel_rfl
theorem td_96 : tdat Try.prog 96 = some ⟨true, 1, 8, .agg #[.int .i64 0]⟩ := by kernel_rfl
theorem zv_96 : ofV (.agg #[.int .i64 0]) = .ag [.v (.int .i64 0)] := by kernel_rfl
theorem tf_96 : tflds Try.prog 96 = some [(0, 1, false)] := by kernel_rfl
theorem fl_96 : flat1 Try.prog 96 = some [.ski] := by kernel_rfl
theorem nk_97 : nkT Try.prog 97 = some .nkf := by kernel_rfl
theorem nk_98 : nkT Try.prog 98 = some .nkf := by kernel_rfl
theorem nk_99 : nkT Try.prog 99 = some .nkf := by kernel_rfl
theorem nk_100 : nkT Try.prog 100 = some .nki := by kernel_rfl
theorem td_100 : tdat Try.prog 100 = some ⟨false, 1, 16, .nilIface⟩ := by kernel_rfl
theorem zv_100 : ofV (.nilIface) = .v .nilIface := by kernel_rfl
theorem nk_101 : nkT Try.prog 101 = some .nki := by kernel_rfl
theorem td_101 : tdat Try.prog 101 = some ⟨false, 1, 16, .nilIface⟩ := by kernel_rfl
theorem zv_101 : ofV (.nilIface) = .v .nilIface := by kernel_rfl
theorem nk_102 : nkT Try.prog 102 = some .nkf := by kernel_rfl
theorem nk_103 : nkT Try.prog 103 = some .nkf := by kernel_rfl
theorem nk_104 : nkT Try.prog 104 = some .nkf := by kernel_rfl
theorem nk_105 : nkT Try.prog 105 = some .nkf := by kernel_rfl
theorem nk_106 : nkT Try.prog 106 = some .nkf := by kernel_rfl
theorem td_107 : tdat Try.prog 107 = some ⟨false, 1, 24, .slice none 0 0⟩ := by kernel_rfl
theorem zv_107 : ofV (.slice none 0 0) = .sl .full [] := by kernel_rfl
theorem tel_107 : tel Try.prog 107 = some 137 := by kernel_rfl
theorem td_108 : tdat Try.prog 108 = some ⟨true, 7, 128, .agg #[.string ⟨#[]⟩, .slice none 0 0, .slice none 0 0, .slice none 0 0, .slice none 0 0, .int .i64 0, .int .i64 0]⟩ := by kernel_rfl
theorem zv_108 : ofV (.agg #[.string ⟨#[]⟩, .slice none 0 0, .slice none 0 0, .slice none 0 0, .slice none 0 0, .int .i64 0, .int .i64 0]) = .ag [.v (.string ⟨#[]⟩), .sl .full [], .sl .full [], .sl .full [], .sl .full [], .v (.int .i64 0), .v (.int .i64 0)] := by kernel_rfl
theorem tf_108 : tflds Try.prog 108 = some [(0, 1, false), (1, 2, true), (3, 1, false), (4, 1, false), (5, 2, true)] := by kernel_rfl
theorem td_109 : tdat Try.prog 109 = some ⟨true, 7, 128, .agg #[.string ⟨#[]⟩, .slice none 0 0, .slice none 0 0, .slice none 0 0, .slice none 0 0, .int .i64 0, .int .i64 0]⟩ := by kernel_rfl
theorem zv_109 : ofV (.agg #[.string ⟨#[]⟩, .slice none 0 0, .slice none 0 0, .slice none 0 0, .slice none 0 0, .int .i64 0, .int .i64 0]) = .ag [.v (.string ⟨#[]⟩), .sl .full [], .sl .full [], .sl .full [], .sl .full [], .v (.int .i64 0), .v (.int .i64 0)] := by kernel_rfl
theorem tf_109 : tflds Try.prog 109 = some [(0, 1, false), (1, 2, true), (3, 1, false), (4, 1, false), (5, 2, true)] := by kernel_rfl
theorem nk_110 : nkT Try.prog 110 = some .nkf := by kernel_rfl
theorem td_111 : tdat Try.prog 111 = some ⟨false, 1, 24, .slice none 0 0⟩ := by kernel_rfl
theorem zv_111 : ofV (.slice none 0 0) = .sl .full [] := by kernel_rfl
theorem tel_111 : tel Try.prog 111 = some 21 := by kernel_rfl
theorem nk_112 : nkT Try.prog 112 = some .nkf := by kernel_rfl
theorem nk_113 : nkT Try.prog 113 = some .nkf := by kernel_rfl
theorem nk_115 : nkT Try.prog 115 = some .nkf := by kernel_rfl
theorem nk_116 : nkT Try.prog 116 = some .nkf := by kernel_rfl
theorem nk_117 : nkT Try.prog 117 = some .nkf := by kernel_rfl
theorem nk_118 : nkT Try.prog 118 = some .nkf := by kernel_rfl
theorem nk_119 : nkT Try.prog 119 = some .nkf := by kernel_rfl
theorem nk_120 : nkT Try.prog 120 = some .nkf := by kernel_rfl
theorem nk_121 : nkT Try.prog 121 = some .nkf := by kernel_rfl
theorem td_122 : tdat Try.prog 122 = some ⟨true, 1, 8, .agg #[.pointer none]⟩ := by kernel_rfl
theorem zv_122 : ofV (.agg #[.pointer none]) = .ag [.v (.pointer none)] := by kernel_rfl
theorem tf_122 : tflds Try.prog 122 = some [(0, 1, false)] := by kernel_rfl
theorem td_123 : tdat Try.prog 123 = some ⟨true, 1, 8, .agg #[.pointer none]⟩ := by kernel_rfl
theorem zv_123 : ofV (.agg #[.pointer none]) = .ag [.v (.pointer none)] := by kernel_rfl
theorem tf_123 : tflds Try.prog 123 = some [(0, 1, false)] := by kernel_rfl
theorem nk_124 : nkT Try.prog 124 = some .nkp := by kernel_rfl
theorem td_124 : tdat Try.prog 124 = some ⟨false, 1, 8, .pointer none⟩ := by kernel_rfl
theorem zv_124 : ofV (.pointer none) = .v (.pointer none) := by kernel_rfl
theorem nk_125 : nkT Try.prog 125 = some .nki := by kernel_rfl
theorem td_125 : tdat Try.prog 125 = some ⟨false, 1, 16, .nilIface⟩ := by kernel_rfl
theorem zv_125 : ofV (.nilIface) = .v .nilIface := by kernel_rfl
theorem nk_127 : nkT Try.prog 127 = some .nkf := by kernel_rfl
theorem nk_128 : nkT Try.prog 128 = some .nki := by kernel_rfl
theorem td_128 : tdat Try.prog 128 = some ⟨false, 1, 16, .nilIface⟩ := by kernel_rfl
theorem zv_128 : ofV (.nilIface) = .v .nilIface := by kernel_rfl
theorem nk_129 : nkT Try.prog 129 = some .nkf := by kernel_rfl
theorem nk_130 : nkT Try.prog 130 = some .nki := by kernel_rfl
theorem td_130 : tdat Try.prog 130 = some ⟨false, 1, 16, .nilIface⟩ := by kernel_rfl
theorem zv_130 : ofV (.nilIface) = .v .nilIface := by kernel_rfl
theorem td_131 : tdat Try.prog 131 = some ⟨false, 1, 24, .slice none 0 0⟩ := by kernel_rfl
theorem zv_131 : ofV (.slice none 0 0) = .sl .full [] := by kernel_rfl
theorem tel_131 : tel Try.prog 131 = some 25 := by kernel_rfl
theorem nk_132 : nkT Try.prog 132 = some .nkf := by kernel_rfl
theorem nk_133 : nkT Try.prog 133 = some .nkp := by kernel_rfl
theorem td_133 : tdat Try.prog 133 = some ⟨false, 1, 8, .pointer none⟩ := by kernel_rfl
theorem zv_133 : ofV (.pointer none) = .v (.pointer none) := by kernel_rfl
theorem td_134 : tdat Try.prog 134 = some ⟨true, 5, 56, .agg #[.int .i64 0, .int .i64 0, .string ⟨#[]⟩, .bool false, .nilIface]⟩ := by kernel_rfl
theorem zv_134 : ofV (.agg #[.int .i64 0, .int .i64 0, .string ⟨#[]⟩, .bool false, .nilIface]) = .ag [.v (.int .i64 0), .v (.int .i64 0), .v (.string ⟨#[]⟩), .v (.bool false), .v .nilIface] := by kernel_rfl
theorem tf_134 : tflds Try.prog 134 = some [(0, 2, true), (2, 1, false), (3, 1, false), (4, 1, false)] := by kernel_rfl
theorem td_135 : tdat Try.prog 135 = some ⟨true, 5, 56, .agg #[.int .i64 0, .int .i64 0, .string ⟨#[]⟩, .bool false, .nilIface]⟩ := by kernel_rfl
theorem zv_135 : ofV (.agg #[.int .i64 0, .int .i64 0, .string ⟨#[]⟩, .bool false, .nilIface]) = .ag [.v (.int .i64 0), .v (.int .i64 0), .v (.string ⟨#[]⟩), .v (.bool false), .v .nilIface] := by kernel_rfl
theorem tf_135 : tflds Try.prog 135 = some [(0, 2, true), (2, 1, false), (3, 1, false), (4, 1, false)] := by kernel_rfl
theorem td_136 : tdat Try.prog 136 = some ⟨true, 12, 128, .agg #[.int .u8 0, .int .u8 0, .int .i32 0, .string ⟨#[]⟩, .slice none 0 0, .slice none 0 0, .int .i64 0, .int .i64 0, .string ⟨#[]⟩, .bool false, .int .i64 0, .int .i64 0]⟩ := by kernel_rfl
theorem zv_136 : ofV (.agg #[.int .u8 0, .int .u8 0, .int .i32 0, .string ⟨#[]⟩, .slice none 0 0, .slice none 0 0, .int .i64 0, .int .i64 0, .string ⟨#[]⟩, .bool false, .int .i64 0, .int .i64 0]) = .ag [.v (.int .u8 0), .v (.int .u8 0), .v (.int .i32 0), .v (.string ⟨#[]⟩), .sl .full [], .sl .full [], .v (.int .i64 0), .v (.int .i64 0), .v (.string ⟨#[]⟩), .v (.bool false), .v (.int .i64 0), .v (.int .i64 0)] := by kernel_rfl
theorem tf_136 : tflds Try.prog 136 = some [(0, 8, true), (8, 1, false), (9, 1, false), (10, 2, true)] := by kernel_rfl
theorem td_137 : tdat Try.prog 137 = some ⟨true, 12, 128, .agg #[.int .u8 0, .int .u8 0, .int .i32 0, .string ⟨#[]⟩, .slice none 0 0, .slice none 0 0, .int .i64 0, .int .i64 0, .string ⟨#[]⟩, .bool false, .int .i64 0, .int .i64 0]⟩ := by kernel_rfl
theorem zv_137 : ofV (.agg #[.int .u8 0, .int .u8 0, .int .i32 0, .string ⟨#[]⟩, .slice none 0 0, .slice none 0 0, .int .i64 0, .int .i64 0, .string ⟨#[]⟩, .bool false, .int .i64 0, .int .i64 0]) = .ag [.v (.int .u8 0), .v (.int .u8 0), .v (.int .i32 0), .v (.string ⟨#[]⟩), .sl .full [], .sl .full [], .v (.int .i64 0), .v (.int .i64 0), .v (.string ⟨#[]⟩), .v (.bool false), .v (.int .i64 0), .v (.int .i64 0)] := by kernel_rfl
theorem tf_137 : tflds Try.prog 137 = some [(0, 8, true), (8, 1, false), (9, 1, false), (10, 2, true)] := by kernel_rfl
theorem nk_138 : nkT Try.prog 138 = some .nkf := by kernel_rfl
theorem nk_139 : nkT Try.prog 139 = some .nkf := by kernel_rfl
theorem nk_140 : nkT Try.prog 140 = some .nkf := by kernel_rfl
theorem nk_141 : nkT Try.prog 141 = some .nkf := by kernel_rfl
theorem nk_142 : nkT Try.prog 142 = some .nkf := by kernel_rfl
theorem nk_143 : nkT Try.prog 143 = some .nkf := by kernel_rfl
theorem nk_145 : nkT Try.prog 145 = some .nkf := by kernel_rfl
theorem td_146 : tdat Try.prog 146 = some ⟨true, 2, 32, .agg #[.string ⟨#[]⟩, .string ⟨#[]⟩]⟩ := by kernel_rfl
theorem zv_146 : ofV (.agg #[.string ⟨#[]⟩, .string ⟨#[]⟩]) = .ag [.v (.string ⟨#[]⟩), .v (.string ⟨#[]⟩)] := by kernel_rfl
theorem tf_146 : tflds Try.prog 146 = some [(0, 1, false), (1, 1, false)] := by kernel_rfl
theorem fl_146 : flat1 Try.prog 146 = some [.sks, .sks] := by kernel_rfl
theorem td_147 : tdat Try.prog 147 = some ⟨true, 2, 32, .agg #[.string ⟨#[]⟩, .string ⟨#[]⟩]⟩ := by kernel_rfl
theorem zv_147 : ofV (.agg #[.string ⟨#[]⟩, .string ⟨#[]⟩]) = .ag [.v (.string ⟨#[]⟩), .v (.string ⟨#[]⟩)] := by kernel_rfl
theorem tf_147 : tflds Try.prog 147 = some [(0, 1, false), (1, 1, false)] := by kernel_rfl
theorem fl_147 : flat1 Try.prog 147 = some [.sks, .sks] := by kernel_rfl
theorem nk_148 : nkT Try.prog 148 = some .nkf := by kernel_rfl
theorem td_149 : tdat Try.prog 149 = some ⟨true, 4, 40, .agg #[.pointer none, .pointer none, .pointer none, .string ⟨#[]⟩]⟩ := by kernel_rfl
theorem zv_149 : ofV (.agg #[.pointer none, .pointer none, .pointer none, .string ⟨#[]⟩]) = .ag [.v (.pointer none), .v (.pointer none), .v (.pointer none), .v (.string ⟨#[]⟩)] := by kernel_rfl
theorem tf_149 : tflds Try.prog 149 = some [(0, 1, false), (1, 1, false), (2, 1, false), (3, 1, false)] := by kernel_rfl
theorem td_150 : tdat Try.prog 150 = some ⟨true, 4, 40, .agg #[.pointer none, .pointer none, .pointer none, .string ⟨#[]⟩]⟩ := by kernel_rfl
theorem zv_150 : ofV (.agg #[.pointer none, .pointer none, .pointer none, .string ⟨#[]⟩]) = .ag [.v (.pointer none), .v (.pointer none), .v (.pointer none), .v (.string ⟨#[]⟩)] := by kernel_rfl
theorem tf_150 : tflds Try.prog 150 = some [(0, 1, false), (1, 1, false), (2, 1, false), (3, 1, false)] := by kernel_rfl
theorem td_151 : tdat Try.prog 151 = some ⟨true, 0, 0, .agg #[]⟩ := by kernel_rfl
theorem zv_151 : ofV (.agg #[]) = .ag [] := by kernel_rfl
theorem tf_151 : tflds Try.prog 151 = none := by kernel_rfl
theorem tel_151 : tel Try.prog 151 = none := by kernel_rfl
theorem ta_151 : tarr Try.prog 151 = some (0, 16) := by kernel_rfl
theorem td_152 : tdat Try.prog 152 = some ⟨true, 0, 0, .agg #[]⟩ := by kernel_rfl
theorem zv_152 : ofV (.agg #[]) = .ag [] := by kernel_rfl
theorem tf_152 : tflds Try.prog 152 = some [(0, 0, true)] := by kernel_rfl
theorem td_153 : tdat Try.prog 153 = some ⟨true, 0, 0, .agg #[]⟩ := by kernel_rfl
theorem zv_153 : ofV (.agg #[]) = .ag [] := by kernel_rfl
theorem tf_153 : tflds Try.prog 153 = some [(0, 0, true)] := by kernel_rfl
theorem nk_154 : nkT Try.prog 154 = some .nkf := by kernel_rfl
theorem td_155 : tdat Try.prog 155 = some ⟨false, 1, 4, .int .u32 0⟩ := by kernel_rfl
theorem zv_155 : ofV (.int .u32 0) = .v (.int .u32 0) := by kernel_rfl
theorem td_156 : tdat Try.prog 156 = some ⟨false, 1, 1, .int .u8 0⟩ := by kernel_rfl
theorem zv_156 : ofV (.int .u8 0) = .v (.int .u8 0) := by kernel_rfl
theorem td_157 : tdat Try.prog 157 = some ⟨false, 1, 1, .int .u8 0⟩ := by kernel_rfl
theorem zv_157 : ofV (.int .u8 0) = .v (.int .u8 0) := by kernel_rfl
theorem nk_158 : nkT Try.prog 158 = some .nkf := by kernel_rfl
theorem nk_159 : nkT Try.prog 159 = some .nkp := by kernel_rfl
theorem td_159 : tdat Try.prog 159 = some ⟨false, 1, 8, .pointer none⟩ := by kernel_rfl
theorem zv_159 : ofV (.pointer none) = .v (.pointer none) := by kernel_rfl
theorem td_160 : tdat Try.prog 160 = some ⟨false, 1, 4, .int .i32 0⟩ := by kernel_rfl
theorem zv_160 : ofV (.int .i32 0) = .v (.int .i32 0) := by kernel_rfl
theorem td_161 : tdat Try.prog 161 = some ⟨false, 1, 4, .int .i32 0⟩ := by kernel_rfl
theorem zv_161 : ofV (.int .i32 0) = .v (.int .i32 0) := by kernel_rfl
theorem td_162 : tdat Try.prog 162 = some ⟨true, 11, 48, .agg #[.int .u64 0, .int .u64 0, .int .u32 0, .int .u8 0, .int .u8 0, .int .u8 0, .int .u8 0, .nilFunc, .pointer none, .int .i32 0, .int .i32 0]⟩ := by kernel_rfl
theorem zv_162 : ofV (.agg #[.int .u64 0, .int .u64 0, .int .u32 0, .int .u8 0, .int .u8 0, .int .u8 0, .int .u8 0, .nilFunc, .pointer none, .int .i32 0, .int .i32 0]) = .ag [.v (.int .u64 0), .v (.int .u64 0), .v (.int .u32 0), .v (.int .u8 0), .v (.int .u8 0), .v (.int .u8 0), .v (.int .u8 0), .v .nilFunc, .v (.pointer none), .v (.int .i32 0), .v (.int .i32 0)] := by kernel_rfl
theorem tf_162 : tflds Try.prog 162 = some [(0, 1, false), (1, 1, false), (2, 1, false), (3, 1, false), (4, 1, false), (5, 1, false), (6, 1, false), (7, 1, false), (8, 1, false), (9, 1, false), (10, 1, false)] := by kernel_rfl
theorem td_163 : tdat Try.prog 163 = some ⟨true, 11, 48, .agg #[.int .u64 0, .int .u64 0, .int .u32 0, .int .u8 0, .int .u8 0, .int .u8 0, .int .u8 0, .nilFunc, .pointer none, .int .i32 0, .int .i32 0]⟩ := by kernel_rfl
theorem zv_163 : ofV (.agg #[.int .u64 0, .int .u64 0, .int .u32 0, .int .u8 0, .int .u8 0, .int .u8 0, .int .u8 0, .nilFunc, .pointer none, .int .i32 0, .int .i32 0]) = .ag [.v (.int .u64 0), .v (.int .u64 0), .v (.int .u32 0), .v (.int .u8 0), .v (.int .u8 0), .v (.int .u8 0), .v (.int .u8 0), .v .nilFunc, .v (.pointer none), .v (.int .i32 0), .v (.int .i32 0)] := by kernel_rfl
theorem tf_163 : tflds Try.prog 163 = some [(0, 1, false), (1, 1, false), (2, 1, false), (3, 1, false), (4, 1, false), (5, 1, false), (6, 1, false), (7, 1, false), (8, 1, false), (9, 1, false), (10, 1, false)] := by kernel_rfl
theorem nk_164 : nkT Try.prog 164 = some .nkf := by kernel_rfl
theorem nk_165 : nkT Try.prog 165 = some .nkf := by kernel_rfl
theorem nk_166 : nkT Try.prog 166 = some .nkf := by kernel_rfl
theorem nk_167 : nkT Try.prog 167 = some .nkf := by kernel_rfl
theorem nk_168 : nkT Try.prog 168 = some .nkf := by kernel_rfl
theorem nk_169 : nkT Try.prog 169 = some .nkf := by kernel_rfl
theorem td_170 : tdat Try.prog 170 = some ⟨true, 2, 24, .agg #[.string ⟨#[]⟩, .int .u8 0]⟩ := by kernel_rfl
theorem zv_170 : ofV (.agg #[.string ⟨#[]⟩, .int .u8 0]) = .ag [.v (.string ⟨#[]⟩), .v (.int .u8 0)] := by kernel_rfl
theorem tf_170 : tflds Try.prog 170 = some [(0, 1, false), (1, 1, false)] := by kernel_rfl
theorem td_171 : tdat Try.prog 171 = some ⟨true, 2, 24, .agg #[.string ⟨#[]⟩, .int .u8 0]⟩ := by kernel_rfl
theorem zv_171 : ofV (.agg #[.string ⟨#[]⟩, .int .u8 0]) = .ag [.v (.string ⟨#[]⟩), .v (.int .u8 0)] := by kernel_rfl
theorem tf_171 : tflds Try.prog 171 = some [(0, 1, false), (1, 1, false)] := by kernel_rfl
theorem td_172 : tdat Try.prog 172 = some ⟨false, 1, 8, .pointer none⟩ := by kernel_rfl
theorem zv_172 : ofV (.pointer none) = .v (.pointer none) := by kernel_rfl
theorem nk_173 : nkT Try.prog 173 = some .nkp := by kernel_rfl
theorem td_173 : tdat Try.prog 173 = some ⟨false, 1, 8, .pointer none⟩ := by kernel_rfl
theorem zv_173 : ofV (.pointer none) = .v (.pointer none) := by kernel_rfl
theorem nk_174 : nkT Try.prog 174 = some .nkf := by kernel_rfl
theorem td_175 : tdat Try.prog 175 = some ⟨false, 1, 2, .int .u16 0⟩ := by kernel_rfl
theorem zv_175 : ofV (.int .u16 0) = .v (.int .u16 0) := by kernel_rfl
theorem td_176 : tdat Try.prog 176 = some ⟨true, 5, 16, .agg #[.int .i32 0, .int .u16 0, .int .u16 0, .int .u32 0, .int .u32 0]⟩ := by kernel_rfl
theorem zv_176 : ofV (.agg #[.int .i32 0, .int .u16 0, .int .u16 0, .int .u32 0, .int .u32 0]) = .ag [.v (.int .i32 0), .v (.int .u16 0), .v (.int .u16 0), .v (.int .u32 0), .v (.int .u32 0)] := by kernel_rfl
theorem tf_176 : tflds Try.prog 176 = some [(0, 1, false), (1, 1, false), (2, 1, false), (3, 1, false), (4, 1, false)] := by kernel_rfl
theorem td_177 : tdat Try.prog 177 = some ⟨true, 5, 16, .agg #[.int .i32 0, .int .u16 0, .int .u16 0, .int .u32 0, .int .u32 0]⟩ := by kernel_rfl
theorem zv_177 : ofV (.agg #[.int .i32 0, .int .u16 0, .int .u16 0, .int .u32 0, .int .u32 0]) = .ag [.v (.int .i32 0), .v (.int .u16 0), .v (.int .u16 0), .v (.int .u32 0), .v (.int .u32 0)] := by kernel_rfl
theorem tf_177 : tflds Try.prog 177 = some [(0, 1, false), (1, 1, false), (2, 1, false), (3, 1, false), (4, 1, false)] := by kernel_rfl
theorem td_178 : tdat Try.prog 178 = some ⟨false, 1, 24, .slice none 0 0⟩ := by kernel_rfl
theorem zv_178 : ofV (.slice none 0 0) = .sl .full [] := by kernel_rfl
theorem tel_178 : tel Try.prog 178 = some 181 := by kernel_rfl
theorem td_179 : tdat Try.prog 179 = some ⟨false, 1, 4, .int .i32 0⟩ := by kernel_rfl
theorem zv_179 : ofV (.int .i32 0) = .v (.int .i32 0) := by kernel_rfl
theorem td_180 : tdat Try.prog 180 = some ⟨true, 4, 16, .agg #[.int .i32 0, .int .i32 0, .int .i32 0, .int .i32 0]⟩ := by kernel_rfl
theorem zv_180 : ofV (.agg #[.int .i32 0, .int .i32 0, .int .i32 0, .int .i32 0]) = .ag [.v (.int .i32 0), .v (.int .i32 0), .v (.int .i32 0), .v (.int .i32 0)] := by kernel_rfl
theorem tf_180 : tflds Try.prog 180 = some [(0, 1, false), (1, 1, false), (2, 1, false), (3, 1, false)] := by kernel_rfl
theorem td_181 : tdat Try.prog 181 = some ⟨true, 4, 16, .agg #[.int .i32 0, .int .i32 0, .int .i32 0, .int .i32 0]⟩ := by kernel_rfl
theorem zv_181 : ofV (.agg #[.int .i32 0, .int .i32 0, .int .i32 0, .int .i32 0]) = .ag [.v (.int .i32 0), .v (.int .i32 0), .v (.int .i32 0), .v (.int .i32 0)] := by kernel_rfl
theorem tf_181 : tflds Try.prog 181 = some [(0, 1, false), (1, 1, false), (2, 1, false), (3, 1, false)] := by kernel_rfl
set_option linter.defProp false
def tfA0 := And.intro @nk_1 (And.intro @td_2 (And.intro @zv_2 (And.intro @Try.underlying2 (And.intro @td_3 (And.intro @zv_3 (And.intro @Try.underlying3 (And.intro @td_4 (And.intro @zv_4 (And.intro @Try.underlying4 (And.intro @td_5 (And.intro @zv_5 (And.intro @Try.underlying5 (And.intro @td_6 (And.intro @zv_6 (And.intro @Try.underlying6 (And.intro @td_7 (And.intro @zv_7 (And.intro @tf_7 (And.intro @td_8 (And.intro @zv_8 (And.intro @tf_8 (And.intro @td_9 (And.intro @zv_9 (And.intro @Try.underlying9 (And.intro @td_10 (And.intro @zv_10 (And.intro @Try.underlying10 (And.intro @td_11 @zv_11))))))))))))))))))))))))))))
def tfA1 := And.intro @Try.underlying11 (And.intro @td_12 (And.intro @zv_12 (And.intro @Try.underlying12 (And.intro @td_13 (And.intro @zv_13 (And.intro @tf_13 (And.intro @td_14 (And.intro @zv_14 (And.intro @tf_14 (And.intro @nk_15 (And.intro @td_15 (And.intro @zv_15 (And.intro @Try.underlying15 (And.intro @nk_16 (And.intro @td_16 (And.intro @zv_16 (And.intro @Try.underlying16 (And.intro @nk_17 (And.intro @td_17 (And.intro @zv_17 (And.intro @Try.underlying17 (And.intro @td_18 (And.intro @zv_18 (And.intro @tf_18 (And.intro @td_19 (And.intro @zv_19 (And.intro @tf_19 (And.intro @nk_20 @td_20))))))))))))))))))))))))))))
def tfA2 := And.intro @zv_20 (And.intro @td_21 (And.intro @zv_21 (And.intro @Try.underlying21 (And.intro @td_22 (And.intro @zv_22 (And.intro @tel_22 (And.intro @Try.underlying22 (And.intro @nk_23 (And.intro @nk_24 (And.intro @td_24 (And.intro @zv_24 (And.intro @nk_25 (And.intro @td_25 (And.intro @zv_25 (And.intro @nk_26 (And.intro @td_27 (And.intro @zv_27 (And.intro @tel_27 (And.intro @Try.underlying27 (And.intro @td_28 (And.intro @zv_28 (And.intro @tel_28 (And.intro @Try.underlying28 (And.intro @td_29 (And.intro @zv_29 (And.intro @tf_29 (And.intro @td_30 (And.intro @zv_30 @tf_30))))))))))))))))))))))))))))
def tfA3 := And.intro @nk_31 (And.intro @nk_32 (And.intro @td_33 (And.intro @zv_33 (And.intro @tel_33 (And.intro @Try.underlying33 (And.intro @td_34 (And.intro @zv_34 (And.intro @tel_34 (And.intro @Try.underlying34 (And.intro @td_35 (And.intro @zv_35 (And.intro @tf_35 (And.intro @td_36 (And.intro @zv_36 (And.intro @tf_36 (And.intro @nk_37 (And.intro @td_38 (And.intro @zv_38 (And.intro @tel_38 (And.intro @Try.underlying38 (And.intro @nk_39 (And.intro @nk_40 (And.intro @nk_41 (And.intro @td_42 (And.intro @zv_42 (And.intro @tf_42 (And.intro @fl_42 (And.intro @td_43 @zv_43))))))))))))))))))))))))))))
def tfA4 := And.intro @tf_43 (And.intro @fl_43 (And.intro @td_44 (And.intro @zv_44 (And.intro @tel_44 (And.intro @Try.underlying44 (And.intro @td_45 (And.intro @zv_45 (And.intro @tel_45 (And.intro @Try.underlying45 (And.intro @td_46 (And.intro @zv_46 (And.intro @tf_46 (And.intro @fl_46 (And.intro @td_47 (And.intro @zv_47 (And.intro @tf_47 (And.intro @fl_47 (And.intro @td_48 (And.intro @zv_48 (And.intro @tf_48 (And.intro @td_49 (And.intro @zv_49 (And.intro @tf_49 (And.intro @td_50 (And.intro @zv_50 (And.intro @tf_50 (And.intro @td_51 (And.intro @zv_51 @tf_51))))))))))))))))))))))))))))
def tfA5 := And.intro @nk_52 (And.intro @td_53 (And.intro @zv_53 (And.intro @Try.underlying53 (And.intro @nk_54 (And.intro @td_55 (And.intro @zv_55 (And.intro @tf_55 (And.intro @td_56 (And.intro @zv_56 (And.intro @tf_56 (And.intro @td_57 (And.intro @zv_57 (And.intro @tf_57 (And.intro @td_58 (And.intro @zv_58 (And.intro @tf_58 (And.intro @td_59 (And.intro @zv_59 (And.intro @td_60 (And.intro @zv_60 (And.intro @nk_61 (And.intro @nk_62 (And.intro @nk_63 (And.intro @td_63 (And.intro @zv_63 (And.intro @Try.underlying63 (And.intro @td_64 (And.intro @zv_64 @tf_64))))))))))))))))))))))))))))
def tfA6 := And.intro @td_65 (And.intro @zv_65 (And.intro @tf_65 (And.intro @td_66 (And.intro @zv_66 (And.intro @tf_66 (And.intro @td_67 (And.intro @zv_67 (And.intro @tf_67 (And.intro @nk_68 (And.intro @nk_69 (And.intro @td_69 (And.intro @zv_69 (And.intro @Try.underlying69 (And.intro @td_70 (And.intro @zv_70 (And.intro @tf_70 (And.intro @td_71 (And.intro @zv_71 (And.intro @tf_71 (And.intro @nk_72 (And.intro @td_73 (And.intro @zv_73 (And.intro @tel_73 (And.intro @Try.underlying73 (And.intro @td_74 (And.intro @zv_74 (And.intro @tf_74 (And.intro @td_75 @zv_75))))))))))))))))))))))))))))
def tfA7 := And.intro @tf_75 (And.intro @nk_76 (And.intro @nk_77 (And.intro @nk_78 (And.intro @nk_79 (And.intro @nk_80 (And.intro @td_81 (And.intro @zv_81 (And.intro @tel_81 (And.intro @Try.underlying81 (And.intro @nk_82 (And.intro @nk_83 (And.intro @nk_84 (And.intro @nk_85 (And.intro @nk_86 (And.intro @nk_87 (And.intro @nk_88 (And.intro @nk_89 (And.intro @td_90 (And.intro @zv_90 (And.intro @tf_90 (And.intro @td_91 (And.intro @zv_91 (And.intro @tf_91 (And.intro @nk_92 (And.intro @nk_93 (And.intro @nk_94 (And.intro @td_94 (And.intro @zv_94 @Try.underlying94))))))))))))))))))))))))))))
def tfA8 := And.intro @td_95 (And.intro @zv_95 (And.intro @tf_95 (And.intro @fl_95 (And.intro @td_96 (And.intro @zv_96 (And.intro @tf_96 (And.intro @fl_96 (And.intro @nk_97 (And.intro @nk_98 (And.intro @nk_99 (And.intro @nk_100 (And.intro @td_100 (And.intro @zv_100 (And.intro @nk_101 (And.intro @td_101 (And.intro @zv_101 (And.intro @nk_102 (And.intro @nk_103 (And.intro @nk_104 (And.intro @nk_105 (And.intro @nk_106 (And.intro @td_107 (And.intro @zv_107 (And.intro @tel_107 (And.intro @Try.underlying107 (And.intro @td_108 (And.intro @zv_108 (And.intro @tf_108 @td_109))))))))))))))))))))))))))))
def tfA9 := And.intro @zv_109 (And.intro @tf_109 (And.intro @nk_110 (And.intro @td_111 (And.intro @zv_111 (And.intro @tel_111 (And.intro @Try.underlying111 (And.intro @nk_112 (And.intro @nk_113 (And.intro @nk_115 (And.intro @nk_116 (And.intro @nk_117 (And.intro @nk_118 (And.intro @nk_119 (And.intro @nk_120 (And.intro @nk_121 (And.intro @td_122 (And.intro @zv_122 (And.intro @tf_122 (And.intro @td_123 (And.intro @zv_123 (And.intro @tf_123 (And.intro @nk_124 (And.intro @td_124 (And.intro @zv_124 (And.intro @Try.underlying124 (And.intro @nk_125 (And.intro @td_125 (And.intro @zv_125 @nk_127))))))))))))))))))))))))))))
def tfA10 := And.intro @nk_128 (And.intro @td_128 (And.intro @zv_128 (And.intro @nk_129 (And.intro @nk_130 (And.intro @td_130 (And.intro @zv_130 (And.intro @td_131 (And.intro @zv_131 (And.intro @tel_131 (And.intro @Try.underlying131 (And.intro @nk_132 (And.intro @nk_133 (And.intro @td_133 (And.intro @zv_133 (And.intro @Try.underlying133 (And.intro @td_134 (And.intro @zv_134 (And.intro @tf_134 (And.intro @td_135 (And.intro @zv_135 (And.intro @tf_135 (And.intro @td_136 (And.intro @zv_136 (And.intro @tf_136 (And.intro @td_137 (And.intro @zv_137 (And.intro @tf_137 (And.intro @nk_138 @nk_139))))))))))))))))))))))))))))
def tfA11 := And.intro @nk_140 (And.intro @nk_141 (And.intro @nk_142 (And.intro @nk_143 (And.intro @nk_145 (And.intro @td_146 (And.intro @zv_146 (And.intro @tf_146 (And.intro @fl_146 (And.intro @td_147 (And.intro @zv_147 (And.intro @tf_147 (And.intro @fl_147 (And.intro @nk_148 (And.intro @td_149 (And.intro @zv_149 (And.intro @tf_149 (And.intro @td_150 (And.intro @zv_150 (And.intro @tf_150 (And.intro @td_151 (And.intro @zv_151 (And.intro @tf_151 (And.intro @tel_151 (And.intro @ta_151 (And.intro @Try.underlying151 (And.intro @td_152 (And.intro @zv_152 (And.intro @tf_152 @td_153))))))))))))))))))))))))))))
def tfA12 := And.intro @zv_153 (And.intro @tf_153 (And.intro @nk_154 (And.intro @td_155 (And.intro @zv_155 (And.intro @Try.underlying155 (And.intro @td_156 (And.intro @zv_156 (And.intro @Try.underlying156 (And.intro @td_157 (And.intro @zv_157 (And.intro @Try.underlying157 (And.intro @nk_158 (And.intro @nk_159 (And.intro @td_159 (And.intro @zv_159 (And.intro @Try.underlying159 (And.intro @td_160 (And.intro @zv_160 (And.intro @Try.underlying160 (And.intro @td_161 (And.intro @zv_161 (And.intro @Try.underlying161 (And.intro @td_162 (And.intro @zv_162 (And.intro @tf_162 (And.intro @td_163 (And.intro @zv_163 (And.intro @tf_163 @nk_164))))))))))))))))))))))))))))
def tfA13 := And.intro @nk_165 (And.intro @nk_166 (And.intro @nk_167 (And.intro @nk_168 (And.intro @nk_169 (And.intro @td_170 (And.intro @zv_170 (And.intro @tf_170 (And.intro @td_171 (And.intro @zv_171 (And.intro @tf_171 (And.intro @td_172 (And.intro @zv_172 (And.intro @nk_173 (And.intro @td_173 (And.intro @zv_173 (And.intro @Try.underlying173 (And.intro @nk_174 (And.intro @td_175 (And.intro @zv_175 (And.intro @Try.underlying175 (And.intro @td_176 (And.intro @zv_176 (And.intro @tf_176 (And.intro @td_177 (And.intro @zv_177 (And.intro @tf_177 (And.intro @td_178 (And.intro @zv_178 @tel_178))))))))))))))))))))))))))))
def tfA14 := And.intro @Try.underlying178 (And.intro @td_179 (And.intro @zv_179 (And.intro @Try.underlying179 (And.intro @td_180 (And.intro @zv_180 (And.intro @tf_180 (And.intro @td_181 (And.intro @zv_181 @tf_181))))))))
def tfA := And.intro @tfA0 (And.intro @tfA1 (And.intro @tfA2 (And.intro @tfA3 (And.intro @tfA4 (And.intro @tfA5 (And.intro @tfA6 (And.intro @tfA7 (And.intro @tfA8 (And.intro @tfA9 (And.intro @tfA10 (And.intro @tfA11 (And.intro @tfA12 (And.intro @tfA13 @tfA14)))))))))))))
end Go.Proofs.Ytfemdelaciccmaa
