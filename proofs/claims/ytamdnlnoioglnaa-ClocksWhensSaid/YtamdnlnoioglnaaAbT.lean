/-
  Closed facts on the types of this seat.
-/
import Derived.Test.YtamdnlnoioglnaaRows
import Derived.Test.YtamdnlnoioglnaaAbFn
import Derived.KernelRfl
namespace Go.Proofs.Ytamdnlnoioglnaa
open Go Go.RowKit
theorem ok_mix : Try.prog.follows .mixedOrders = true := by kernel_rfl
theorem nk_1 : nkT Try.prog 1 = some .nkf := by kernel_rfl
theorem td_2 : tdat Try.prog 2 = some ⟨false, 1, 8, .int .i64 0⟩ := by kernel_rfl
theorem zv_2 : ofV (.int .i64 0) = .v (.int .i64 0) := by kernel_rfl
theorem td_3 : tdat Try.prog 3 = some ⟨false, 1, 8, .int .i64 0⟩ := by kernel_rfl
theorem zv_3 : ofV (.int .i64 0) = .v (.int .i64 0) := by kernel_rfl
theorem td_4 : tdat Try.prog 4 = some ⟨false, 1, 1, .bool false⟩ := by kernel_rfl
theorem zv_4 : ofV (.bool false) = .v (.bool false) := by kernel_rfl
theorem td_5 : tdat Try.prog 5 = some ⟨false, 1, 1, .int .u8 0⟩ := by kernel_rfl
theorem zv_5 : ofV (.int .u8 0) = .v (.int .u8 0) := by kernel_rfl
theorem td_6 : tdat Try.prog 6 = some ⟨false, 1, 1, .int .u8 0⟩ := by kernel_rfl
theorem zv_6 : ofV (.int .u8 0) = .v (.int .u8 0) := by kernel_rfl
theorem td_7 : tdat Try.prog 7 = some ⟨true, 4, 24, .agg #[.int .i64 0, .int .i64 0, .bool false, .int .u8 0]⟩ := by kernel_rfl
theorem zv_7 : ofV (.agg #[.int .i64 0, .int .i64 0, .bool false, .int .u8 0]) = .ag [.v (.int .i64 0), .v (.int .i64 0), .v (.bool false), .v (.int .u8 0)] := by kernel_rfl
theorem tf_7 : tflds Try.prog 7 = some [(0, 1, false), (1, 1, false), (2, 1, false), (3, 1, false)] := by kernel_rfl
theorem td_8 : tdat Try.prog 8 = some ⟨true, 4, 24, .agg #[.int .i64 0, .int .i64 0, .bool false, .int .u8 0]⟩ := by kernel_rfl
theorem zv_8 : ofV (.agg #[.int .i64 0, .int .i64 0, .bool false, .int .u8 0]) = .ag [.v (.int .i64 0), .v (.int .i64 0), .v (.bool false), .v (.int .u8 0)] := by kernel_rfl
theorem tf_8 : tflds Try.prog 8 = some [(0, 1, false), (1, 1, false), (2, 1, false), (3, 1, false)] := by kernel_rfl
theorem td_9 : tdat Try.prog 9 = some ⟨false, 1, 16, .string ⟨#[]⟩⟩ := by kernel_rfl
theorem zv_9 : ofV (.string ⟨#[]⟩) = .v (.string ⟨#[]⟩) := by kernel_rfl
theorem td_10 : tdat Try.prog 10 = some ⟨false, 1, 16, .string ⟨#[]⟩⟩ := by kernel_rfl
theorem zv_10 : ofV (.string ⟨#[]⟩) = .v (.string ⟨#[]⟩) := by kernel_rfl
theorem td_11 : tdat Try.prog 11 = some ⟨false, 1, 16, .string ⟨#[]⟩⟩ := by kernel_rfl
theorem zv_11 : ofV (.string ⟨#[]⟩) = .v (.string ⟨#[]⟩) := by kernel_rfl
theorem td_12 : tdat Try.prog 12 = some ⟨false, 1, 8, .int .u64 0⟩ := by kernel_rfl
theorem zv_12 : ofV (.int .u64 0) = .v (.int .u64 0) := by kernel_rfl
theorem td_13 : tdat Try.prog 13 = some ⟨true, 2, 24, .agg #[.string ⟨#[]⟩, .int .u64 0]⟩ := by kernel_rfl
theorem zv_13 : ofV (.agg #[.string ⟨#[]⟩, .int .u64 0]) = .ag [.v (.string ⟨#[]⟩), .v (.int .u64 0)] := by kernel_rfl
theorem tf_13 : tflds Try.prog 13 = some [(0, 1, false), (1, 1, false)] := by kernel_rfl
theorem td_14 : tdat Try.prog 14 = some ⟨true, 2, 24, .agg #[.string ⟨#[]⟩, .int .u64 0]⟩ := by kernel_rfl
theorem zv_14 : ofV (.agg #[.string ⟨#[]⟩, .int .u64 0]) = .ag [.v (.string ⟨#[]⟩), .v (.int .u64 0)] := by kernel_rfl
theorem tf_14 : tflds Try.prog 14 = some [(0, 1, false), (1, 1, false)] := by kernel_rfl
theorem nk_15 : nkT Try.prog 15 = some .nkp := by kernel_rfl
theorem td_15 : tdat Try.prog 15 = some ⟨false, 1, 8, .pointer none⟩ := by kernel_rfl
theorem zv_15 : ofV (.pointer none) = .v (.pointer none) := by kernel_rfl
theorem nk_16 : nkT Try.prog 16 = some .nkp := by kernel_rfl
theorem td_16 : tdat Try.prog 16 = some ⟨false, 1, 8, .pointer none⟩ := by kernel_rfl
theorem zv_16 : ofV (.pointer none) = .v (.pointer none) := by kernel_rfl
theorem nk_17 : nkT Try.prog 17 = some .nkp := by kernel_rfl
theorem td_17 : tdat Try.prog 17 = some ⟨false, 1, 8, .pointer none⟩ := by kernel_rfl
theorem zv_17 : ofV (.pointer none) = .v (.pointer none) := by kernel_rfl
theorem td_18 : tdat Try.prog 18 = some ⟨true, 1, 8, .agg #[.pointer none]⟩ := by kernel_rfl
theorem zv_18 : ofV (.agg #[.pointer none]) = .ag [.v (.pointer none)] := by kernel_rfl
theorem tf_18 : tflds Try.prog 18 = some [(0, 1, false)] := by kernel_rfl
theorem td_19 : tdat Try.prog 19 = some ⟨true, 1, 8, .agg #[.pointer none]⟩ := by kernel_rfl
theorem zv_19 : ofV (.agg #[.pointer none]) = .ag [.v (.pointer none)] := by kernel_rfl
theorem tf_19 : tflds Try.prog 19 = some [(0, 1, false)] := by kernel_rfl
theorem nk_20 : nkT Try.prog 20 = some .nki := by kernel_rfl
theorem td_20 : tdat Try.prog 20 = some ⟨false, 1, 16, .nilIface⟩ := by kernel_rfl
theorem zv_20 : ofV (.nilIface) = .v .nilIface := by kernel_rfl
theorem td_21 : tdat Try.prog 21 = some ⟨false, 1, 4, .int .i32 0⟩ := by kernel_rfl
theorem zv_21 : ofV (.int .i32 0) = .v (.int .i32 0) := by kernel_rfl
theorem td_22 : tdat Try.prog 22 = some ⟨false, 1, 24, .slice none 0 0⟩ := by kernel_rfl
theorem zv_22 : ofV (.slice none 0 0) = .sl .full [] := by kernel_rfl
theorem tel_22 : tel Try.prog 22 = some 5 := by kernel_rfl
theorem nk_23 : nkT Try.prog 23 = some .nkf := by kernel_rfl
theorem nk_24 : nkT Try.prog 24 = some .nki := by kernel_rfl
theorem td_24 : tdat Try.prog 24 = some ⟨false, 1, 16, .nilIface⟩ := by kernel_rfl
theorem zv_24 : ofV (.nilIface) = .v .nilIface := by kernel_rfl
theorem nk_25 : nkT Try.prog 25 = some .nki := by kernel_rfl
theorem td_25 : tdat Try.prog 25 = some ⟨false, 1, 16, .nilIface⟩ := by kernel_rfl
theorem zv_25 : ofV (.nilIface) = .v .nilIface := by kernel_rfl
theorem nk_26 : nkT Try.prog 26 = some .nkf := by kernel_rfl
theorem td_27 : tdat Try.prog 27 = some ⟨false, 1, 24, .slice none 0 0⟩ := by kernel_rfl
theorem zv_27 : ofV (.slice none 0 0) = .sl .full [] := by kernel_rfl
theorem tel_27 : tel Try.prog 27 = some 72 := by kernel_rfl
theorem td_28 : tdat Try.prog 28 = some ⟨false, 1, 24, .slice none 0 0⟩ := by kernel_rfl
theorem zv_28 : ofV (.slice none 0 0) = .sl .full [] := by kernel_rfl
theorem tel_28 : tel Try.prog 28 = some 55 := by kernel_rfl
theorem td_29 : tdat Try.prog 29 = some ⟨true, 2, 48, .agg #[.slice none 0 0, .slice none 0 0]⟩ := by kernel_rfl
theorem zv_29 : ofV (.agg #[.slice none 0 0, .slice none 0 0]) = .ag [.sl .full [], .sl .full []] := by kernel_rfl
theorem tf_29 : tflds Try.prog 29 = some [(0, 1, false), (1, 1, false)] := by kernel_rfl
theorem td_30 : tdat Try.prog 30 = some ⟨true, 2, 48, .agg #[.slice none 0 0, .slice none 0 0]⟩ := by kernel_rfl
theorem zv_30 : ofV (.agg #[.slice none 0 0, .slice none 0 0]) = .ag [.sl .full [], .sl .full []] := by kernel_rfl
theorem tf_30 : tflds Try.prog 30 = some [(0, 1, false), (1, 1, false)] := by kernel_rfl
theorem nk_31 : nkT Try.prog 31 = some .nkf := by kernel_rfl
theorem nk_32 : nkT Try.prog 32 = some .nkf := by kernel_rfl
theorem td_33 : tdat Try.prog 33 = some ⟨false, 1, 24, .slice none 0 0⟩ := by kernel_rfl
theorem zv_33 : ofV (.slice none 0 0) = .sl .full [] := by kernel_rfl
theorem tel_33 : tel Try.prog 33 = some 79 := by kernel_rfl
theorem nk_34 : nkT Try.prog 34 = some .nkf := by kernel_rfl
theorem td_35 : tdat Try.prog 35 = some ⟨false, 1, 24, .slice none 0 0⟩ := by kernel_rfl
theorem zv_35 : ofV (.slice none 0 0) = .sl .full [] := by kernel_rfl
theorem tel_35 : tel Try.prog 35 = some 4 := by kernel_rfl
theorem td_36 : tdat Try.prog 36 = some ⟨false, 1, 24, .slice none 0 0⟩ := by kernel_rfl
theorem zv_36 : ofV (.slice none 0 0) = .sl .full [] := by kernel_rfl
theorem tel_36 : tel Try.prog 36 = some 9 := by kernel_rfl
theorem td_37 : tdat Try.prog 37 = some ⟨false, 1, 24, .slice none 0 0⟩ := by kernel_rfl
theorem zv_37 : ofV (.slice none 0 0) = .sl .full [] := by kernel_rfl
theorem tel_37 : tel Try.prog 37 = some 41 := by kernel_rfl
theorem td_38 : tdat Try.prog 38 = some ⟨true, 2, 16, .agg #[.int .i64 0, .int .i64 0]⟩ := by kernel_rfl
theorem zv_38 : ofV (.agg #[.int .i64 0, .int .i64 0]) = .ag [.v (.int .i64 0), .v (.int .i64 0)] := by kernel_rfl
theorem tf_38 : tflds Try.prog 38 = some [(0, 1, false), (1, 1, false)] := by kernel_rfl
theorem fl_38 : flat1 Try.prog 38 = some [.ski, .ski] := by kernel_rfl
theorem td_39 : tdat Try.prog 39 = some ⟨true, 2, 16, .agg #[.int .i64 0, .int .i64 0]⟩ := by kernel_rfl
theorem zv_39 : ofV (.agg #[.int .i64 0, .int .i64 0]) = .ag [.v (.int .i64 0), .v (.int .i64 0)] := by kernel_rfl
theorem tf_39 : tflds Try.prog 39 = some [(0, 1, false), (1, 1, false)] := by kernel_rfl
theorem fl_39 : flat1 Try.prog 39 = some [.ski, .ski] := by kernel_rfl
theorem td_40 : tdat Try.prog 40 = some ⟨true, 8, 88, .agg #[.int .u8 0, .int .u8 0, .int .i32 0, .string ⟨#[]⟩, .slice none 0 0, .slice none 0 0, .int .i64 0, .int .i64 0]⟩ := by kernel_rfl
theorem zv_40 : ofV (.agg #[.int .u8 0, .int .u8 0, .int .i32 0, .string ⟨#[]⟩, .slice none 0 0, .slice none 0 0, .int .i64 0, .int .i64 0]) = .ag [.v (.int .u8 0), .v (.int .u8 0), .v (.int .i32 0), .v (.string ⟨#[]⟩), .sl .full [], .sl .full [], .v (.int .i64 0), .v (.int .i64 0)] := by kernel_rfl
theorem tf_40 : tflds Try.prog 40 = some [(0, 1, false), (1, 1, false), (2, 1, false), (3, 1, false), (4, 1, false), (5, 1, false), (6, 2, true)] := by kernel_rfl
theorem td_41 : tdat Try.prog 41 = some ⟨true, 8, 88, .agg #[.int .u8 0, .int .u8 0, .int .i32 0, .string ⟨#[]⟩, .slice none 0 0, .slice none 0 0, .int .i64 0, .int .i64 0]⟩ := by kernel_rfl
theorem zv_41 : ofV (.agg #[.int .u8 0, .int .u8 0, .int .i32 0, .string ⟨#[]⟩, .slice none 0 0, .slice none 0 0, .int .i64 0, .int .i64 0]) = .ag [.v (.int .u8 0), .v (.int .u8 0), .v (.int .i32 0), .v (.string ⟨#[]⟩), .sl .full [], .sl .full [], .v (.int .i64 0), .v (.int .i64 0)] := by kernel_rfl
theorem tf_41 : tflds Try.prog 41 = some [(0, 1, false), (1, 1, false), (2, 1, false), (3, 1, false), (4, 1, false), (5, 1, false), (6, 2, true)] := by kernel_rfl
theorem nk_42 : nkT Try.prog 42 = some .nkf := by kernel_rfl
theorem nk_44 : nkT Try.prog 44 = some .nkf := by kernel_rfl
theorem nk_45 : nkT Try.prog 45 = some .nkf := by kernel_rfl
theorem td_46 : tdat Try.prog 46 = some ⟨false, 1, 8, .int .i64 0⟩ := by kernel_rfl
theorem zv_46 : ofV (.int .i64 0) = .v (.int .i64 0) := by kernel_rfl
theorem nk_47 : nkT Try.prog 47 = some .nkf := by kernel_rfl
theorem td_48 : tdat Try.prog 48 = some ⟨true, 1, 16, .agg #[.nilIface]⟩ := by kernel_rfl
theorem zv_48 : ofV (.agg #[.nilIface]) = .ag [.v .nilIface] := by kernel_rfl
theorem tf_48 : tflds Try.prog 48 = some [(0, 1, false)] := by kernel_rfl
theorem td_49 : tdat Try.prog 49 = some ⟨true, 1, 16, .agg #[.nilIface]⟩ := by kernel_rfl
theorem zv_49 : ofV (.agg #[.nilIface]) = .ag [.v .nilIface] := by kernel_rfl
theorem tf_49 : tflds Try.prog 49 = some [(0, 1, false)] := by kernel_rfl
theorem td_50 : tdat Try.prog 50 = some ⟨false, 1, 24, .slice none 0 0⟩ := by kernel_rfl
theorem zv_50 : ofV (.slice none 0 0) = .sl .full [] := by kernel_rfl
theorem tel_50 : tel Try.prog 50 = some 63 := by kernel_rfl
theorem td_51 : tdat Try.prog 51 = some ⟨false, 1, 24, .slice none 0 0⟩ := by kernel_rfl
theorem zv_51 : ofV (.slice none 0 0) = .sl .full [] := by kernel_rfl
theorem tel_51 : tel Try.prog 51 = some 82 := by kernel_rfl
theorem td_52 : tdat Try.prog 52 = some ⟨true, 2, 48, .agg #[.slice none 0 0, .slice none 0 0]⟩ := by kernel_rfl
theorem zv_52 : ofV (.agg #[.slice none 0 0, .slice none 0 0]) = .ag [.sl .full [], .sl .full []] := by kernel_rfl
theorem tf_52 : tflds Try.prog 52 = some [(0, 1, false), (1, 1, false)] := by kernel_rfl
theorem td_53 : tdat Try.prog 53 = some ⟨true, 2, 48, .agg #[.slice none 0 0, .slice none 0 0]⟩ := by kernel_rfl
theorem zv_53 : ofV (.agg #[.slice none 0 0, .slice none 0 0]) = .ag [.sl .full [], .sl .full []] := by kernel_rfl
theorem tf_53 : tflds Try.prog 53 = some [(0, 1, false), (1, 1, false)] := by kernel_rfl
theorem td_54 : tdat Try.prog 54 = some ⟨true, 7, 128, .agg #[.string ⟨#[]⟩, .slice none 0 0, .slice none 0 0, .slice none 0 0, .slice none 0 0, .int .i64 0, .int .i64 0]⟩ := by kernel_rfl
theorem zv_54 : ofV (.agg #[.string ⟨#[]⟩, .slice none 0 0, .slice none 0 0, .slice none 0 0, .slice none 0 0, .int .i64 0, .int .i64 0]) = .ag [.v (.string ⟨#[]⟩), .sl .full [], .sl .full [], .sl .full [], .sl .full [], .v (.int .i64 0), .v (.int .i64 0)] := by kernel_rfl
theorem tf_54 : tflds Try.prog 54 = some [(0, 1, false), (1, 1, false), (2, 1, false), (3, 2, true), (5, 2, true)] := by kernel_rfl
theorem td_55 : tdat Try.prog 55 = some ⟨true, 7, 128, .agg #[.string ⟨#[]⟩, .slice none 0 0, .slice none 0 0, .slice none 0 0, .slice none 0 0, .int .i64 0, .int .i64 0]⟩ := by kernel_rfl
theorem zv_55 : ofV (.agg #[.string ⟨#[]⟩, .slice none 0 0, .slice none 0 0, .slice none 0 0, .slice none 0 0, .int .i64 0, .int .i64 0]) = .ag [.v (.string ⟨#[]⟩), .sl .full [], .sl .full [], .sl .full [], .sl .full [], .v (.int .i64 0), .v (.int .i64 0)] := by kernel_rfl
theorem tf_55 : tflds Try.prog 55 = some [(0, 1, false), (1, 1, false), (2, 1, false), (3, 2, true), (5, 2, true)] := by kernel_rfl
theorem td_56 : tdat Try.prog 56 = some ⟨false, 1, 24, .slice none 0 0⟩ := by kernel_rfl
theorem zv_56 : ofV (.slice none 0 0) = .sl .full [] := by kernel_rfl
theorem tel_56 : tel Try.prog 56 = some 66 := by kernel_rfl
theorem td_57 : tdat Try.prog 57 = some ⟨true, 2, 32, .agg #[.slice none 0 0, .int .i64 0]⟩ := by kernel_rfl
theorem zv_57 : ofV (.agg #[.slice none 0 0, .int .i64 0]) = .ag [.sl .full [], .v (.int .i64 0)] := by kernel_rfl
theorem tf_57 : tflds Try.prog 57 = some [(0, 1, false), (1, 1, false)] := by kernel_rfl
theorem td_58 : tdat Try.prog 58 = some ⟨true, 2, 32, .agg #[.slice none 0 0, .int .i64 0]⟩ := by kernel_rfl
theorem zv_58 : ofV (.agg #[.slice none 0 0, .int .i64 0]) = .ag [.sl .full [], .v (.int .i64 0)] := by kernel_rfl
theorem tf_58 : tflds Try.prog 58 = some [(0, 1, false), (1, 1, false)] := by kernel_rfl
theorem nk_59 : nkT Try.prog 59 = some .nkf := by kernel_rfl
theorem td_60 : tdat Try.prog 60 = some ⟨true, 2, 24, .agg #[.int .u8 0, .string ⟨#[]⟩]⟩ := by kernel_rfl
theorem zv_60 : ofV (.agg #[.int .u8 0, .string ⟨#[]⟩]) = .ag [.v (.int .u8 0), .v (.string ⟨#[]⟩)] := by kernel_rfl
theorem tf_60 : tflds Try.prog 60 = some [(0, 1, false), (1, 1, false)] := by kernel_rfl
theorem fl_60 : flat1 Try.prog 60 = some [.ski, .sks] := by kernel_rfl
theorem td_61 : tdat Try.prog 61 = some ⟨true, 2, 24, .agg #[.int .u8 0, .string ⟨#[]⟩]⟩ := by kernel_rfl
theorem zv_61 : ofV (.agg #[.int .u8 0, .string ⟨#[]⟩]) = .ag [.v (.int .u8 0), .v (.string ⟨#[]⟩)] := by kernel_rfl
theorem tf_61 : tflds Try.prog 61 = some [(0, 1, false), (1, 1, false)] := by kernel_rfl
theorem fl_61 : flat1 Try.prog 61 = some [.ski, .sks] := by kernel_rfl
theorem td_62 : tdat Try.prog 62 = some ⟨true, 15, 176, .agg #[.string ⟨#[]⟩, .int .u8 0, .string ⟨#[]⟩, .slice none 0 0, .bool false, .int .u8 0, .int .u8 0, .int .i32 0, .string ⟨#[]⟩, .slice none 0 0, .slice none 0 0, .int .i64 0, .int .i64 0, .int .i64 0, .int .i64 0]⟩ := by kernel_rfl
theorem zv_62 : ofV (.agg #[.string ⟨#[]⟩, .int .u8 0, .string ⟨#[]⟩, .slice none 0 0, .bool false, .int .u8 0, .int .u8 0, .int .i32 0, .string ⟨#[]⟩, .slice none 0 0, .slice none 0 0, .int .i64 0, .int .i64 0, .int .i64 0, .int .i64 0]) = .ag [.v (.string ⟨#[]⟩), .v (.int .u8 0), .v (.string ⟨#[]⟩), .sl .full [], .v (.bool false), .v (.int .u8 0), .v (.int .u8 0), .v (.int .i32 0), .v (.string ⟨#[]⟩), .sl .full [], .sl .full [], .v (.int .i64 0), .v (.int .i64 0), .v (.int .i64 0), .v (.int .i64 0)] := by kernel_rfl
theorem tf_62 : tflds Try.prog 62 = some [(0, 1, false), (1, 2, true), (3, 1, false), (4, 1, false), (5, 8, true), (13, 2, true)] := by kernel_rfl
theorem td_63 : tdat Try.prog 63 = some ⟨true, 15, 176, .agg #[.string ⟨#[]⟩, .int .u8 0, .string ⟨#[]⟩, .slice none 0 0, .bool false, .int .u8 0, .int .u8 0, .int .i32 0, .string ⟨#[]⟩, .slice none 0 0, .slice none 0 0, .int .i64 0, .int .i64 0, .int .i64 0, .int .i64 0]⟩ := by kernel_rfl
theorem zv_63 : ofV (.agg #[.string ⟨#[]⟩, .int .u8 0, .string ⟨#[]⟩, .slice none 0 0, .bool false, .int .u8 0, .int .u8 0, .int .i32 0, .string ⟨#[]⟩, .slice none 0 0, .slice none 0 0, .int .i64 0, .int .i64 0, .int .i64 0, .int .i64 0]) = .ag [.v (.string ⟨#[]⟩), .v (.int .u8 0), .v (.string ⟨#[]⟩), .sl .full [], .v (.bool false), .v (.int .u8 0), .v (.int .u8 0), .v (.int .i32 0), .v (.string ⟨#[]⟩), .sl .full [], .sl .full [], .v (.int .i64 0), .v (.int .i64 0), .v (.int .i64 0), .v (.int .i64 0)] := by kernel_rfl
theorem tf_63 : tflds Try.prog 63 = some [(0, 1, false), (1, 2, true), (3, 1, false), (4, 1, false), (5, 8, true), (13, 2, true)] := by kernel_rfl
theorem nk_64 : nkT Try.prog 64 = some .nkf := by kernel_rfl
theorem td_65 : tdat Try.prog 65 = some ⟨true, 3, 48, .agg #[.string ⟨#[]⟩, .int .i64 0, .slice none 0 0]⟩ := by kernel_rfl
theorem zv_65 : ofV (.agg #[.string ⟨#[]⟩, .int .i64 0, .slice none 0 0]) = .ag [.v (.string ⟨#[]⟩), .v (.int .i64 0), .sl .full []] := by kernel_rfl
theorem tf_65 : tflds Try.prog 65 = some [(0, 1, false), (1, 1, false), (2, 1, false)] := by kernel_rfl
theorem td_66 : tdat Try.prog 66 = some ⟨true, 3, 48, .agg #[.string ⟨#[]⟩, .int .i64 0, .slice none 0 0]⟩ := by kernel_rfl
theorem zv_66 : ofV (.agg #[.string ⟨#[]⟩, .int .i64 0, .slice none 0 0]) = .ag [.v (.string ⟨#[]⟩), .v (.int .i64 0), .sl .full []] := by kernel_rfl
theorem tf_66 : tflds Try.prog 66 = some [(0, 1, false), (1, 1, false), (2, 1, false)] := by kernel_rfl
theorem nk_67 : nkT Try.prog 67 = some .nkf := by kernel_rfl
theorem nk_68 : nkT Try.prog 68 = some .nkp := by kernel_rfl
theorem td_68 : tdat Try.prog 68 = some ⟨false, 1, 8, .pointer none⟩ := by kernel_rfl
theorem zv_68 : ofV (.pointer none) = .v (.pointer none) := by kernel_rfl
theorem td_69 : tdat Try.prog 69 = some ⟨true, 2, 32, .agg #[.slice none 0 0, .int .i64 0]⟩ := by kernel_rfl
theorem zv_69 : ofV (.agg #[.slice none 0 0, .int .i64 0]) = .ag [.sl .full [], .v (.int .i64 0)] := by kernel_rfl
theorem tf_69 : tflds Try.prog 69 = some [(0, 1, false), (1, 1, false)] := by kernel_rfl
theorem td_70 : tdat Try.prog 70 = some ⟨true, 2, 32, .agg #[.slice none 0 0, .int .i64 0]⟩ := by kernel_rfl
theorem zv_70 : ofV (.agg #[.slice none 0 0, .int .i64 0]) = .ag [.sl .full [], .v (.int .i64 0)] := by kernel_rfl
theorem tf_70 : tflds Try.prog 70 = some [(0, 1, false), (1, 1, false)] := by kernel_rfl
theorem td_71 : tdat Try.prog 71 = some ⟨true, 4, 56, .agg #[.string ⟨#[]⟩, .slice none 0 0, .int .i64 0, .int .i64 0]⟩ := by kernel_rfl
theorem zv_71 : ofV (.agg #[.string ⟨#[]⟩, .slice none 0 0, .int .i64 0, .int .i64 0]) = .ag [.v (.string ⟨#[]⟩), .sl .full [], .v (.int .i64 0), .v (.int .i64 0)] := by kernel_rfl
theorem tf_71 : tflds Try.prog 71 = some [(0, 1, false), (1, 1, false), (2, 2, true)] := by kernel_rfl
theorem td_72 : tdat Try.prog 72 = some ⟨true, 4, 56, .agg #[.string ⟨#[]⟩, .slice none 0 0, .int .i64 0, .int .i64 0]⟩ := by kernel_rfl
theorem zv_72 : ofV (.agg #[.string ⟨#[]⟩, .slice none 0 0, .int .i64 0, .int .i64 0]) = .ag [.v (.string ⟨#[]⟩), .sl .full [], .v (.int .i64 0), .v (.int .i64 0)] := by kernel_rfl
theorem tf_72 : tflds Try.prog 72 = some [(0, 1, false), (1, 1, false), (2, 2, true)] := by kernel_rfl
theorem nk_73 : nkT Try.prog 73 = some .nkf := by kernel_rfl
theorem nk_74 : nkT Try.prog 74 = some .nkp := by kernel_rfl
theorem td_74 : tdat Try.prog 74 = some ⟨false, 1, 8, .pointer none⟩ := by kernel_rfl
theorem zv_74 : ofV (.pointer none) = .v (.pointer none) := by kernel_rfl
theorem td_75 : tdat Try.prog 75 = some ⟨true, 5, 40, .agg #[.pointer none, .int .i64 0, .int .i64 0, .int .i64 0, .bool false]⟩ := by kernel_rfl
theorem zv_75 : ofV (.agg #[.pointer none, .int .i64 0, .int .i64 0, .int .i64 0, .bool false]) = .ag [.v (.pointer none), .v (.int .i64 0), .v (.int .i64 0), .v (.int .i64 0), .v (.bool false)] := by kernel_rfl
theorem tf_75 : tflds Try.prog 75 = some [(0, 1, false), (1, 1, false), (2, 1, false), (3, 1, false), (4, 1, false)] := by kernel_rfl
theorem td_76 : tdat Try.prog 76 = some ⟨true, 5, 40, .agg #[.pointer none, .int .i64 0, .int .i64 0, .int .i64 0, .bool false]⟩ := by kernel_rfl
theorem zv_76 : ofV (.agg #[.pointer none, .int .i64 0, .int .i64 0, .int .i64 0, .bool false]) = .ag [.v (.pointer none), .v (.int .i64 0), .v (.int .i64 0), .v (.int .i64 0), .v (.bool false)] := by kernel_rfl
theorem tf_76 : tflds Try.prog 76 = some [(0, 1, false), (1, 1, false), (2, 1, false), (3, 1, false), (4, 1, false)] := by kernel_rfl
theorem nk_77 : nkT Try.prog 77 = some .nkf := by kernel_rfl
theorem td_78 : tdat Try.prog 78 = some ⟨true, 2, 32, .agg #[.string ⟨#[]⟩, .string ⟨#[]⟩]⟩ := by kernel_rfl
theorem zv_78 : ofV (.agg #[.string ⟨#[]⟩, .string ⟨#[]⟩]) = .ag [.v (.string ⟨#[]⟩), .v (.string ⟨#[]⟩)] := by kernel_rfl
theorem tf_78 : tflds Try.prog 78 = some [(0, 1, false), (1, 1, false)] := by kernel_rfl
theorem fl_78 : flat1 Try.prog 78 = some [.sks, .sks] := by kernel_rfl
theorem td_79 : tdat Try.prog 79 = some ⟨true, 2, 32, .agg #[.string ⟨#[]⟩, .string ⟨#[]⟩]⟩ := by kernel_rfl
theorem zv_79 : ofV (.agg #[.string ⟨#[]⟩, .string ⟨#[]⟩]) = .ag [.v (.string ⟨#[]⟩), .v (.string ⟨#[]⟩)] := by kernel_rfl
theorem tf_79 : tflds Try.prog 79 = some [(0, 1, false), (1, 1, false)] := by kernel_rfl
theorem fl_79 : flat1 Try.prog 79 = some [.sks, .sks] := by kernel_rfl
theorem td_80 : tdat Try.prog 80 = some ⟨false, 1, 24, .slice none 0 0⟩ := by kernel_rfl
theorem zv_80 : ofV (.slice none 0 0) = .sl .full [] := by kernel_rfl
theorem tel_80 : tel Try.prog 80 = some 130 := by kernel_rfl
theorem td_81 : tdat Try.prog 81 = some ⟨true, 16, 208, .agg #[.int .u8 0, .slice none 0 0, .string ⟨#[]⟩, .slice none 0 0, .bool false, .int .u8 0, .int .u8 0, .int .i32 0, .string ⟨#[]⟩, .slice none 0 0, .slice none 0 0, .int .i64 0, .int .i64 0, .slice none 0 0, .int .i64 0, .int .i64 0]⟩ := by kernel_rfl
theorem zv_81 : ofV (.agg #[.int .u8 0, .slice none 0 0, .string ⟨#[]⟩, .slice none 0 0, .bool false, .int .u8 0, .int .u8 0, .int .i32 0, .string ⟨#[]⟩, .slice none 0 0, .slice none 0 0, .int .i64 0, .int .i64 0, .slice none 0 0, .int .i64 0, .int .i64 0]) = .ag [.v (.int .u8 0), .sl .full [], .v (.string ⟨#[]⟩), .sl .full [], .v (.bool false), .v (.int .u8 0), .v (.int .u8 0), .v (.int .i32 0), .v (.string ⟨#[]⟩), .sl .full [], .sl .full [], .v (.int .i64 0), .v (.int .i64 0), .sl .full [], .v (.int .i64 0), .v (.int .i64 0)] := by kernel_rfl
theorem tf_81 : tflds Try.prog 81 = some [(0, 1, false), (1, 1, false), (2, 1, false), (3, 1, false), (4, 1, false), (5, 8, true), (13, 1, false), (14, 2, true)] := by kernel_rfl
theorem td_82 : tdat Try.prog 82 = some ⟨true, 16, 208, .agg #[.int .u8 0, .slice none 0 0, .string ⟨#[]⟩, .slice none 0 0, .bool false, .int .u8 0, .int .u8 0, .int .i32 0, .string ⟨#[]⟩, .slice none 0 0, .slice none 0 0, .int .i64 0, .int .i64 0, .slice none 0 0, .int .i64 0, .int .i64 0]⟩ := by kernel_rfl
theorem zv_82 : ofV (.agg #[.int .u8 0, .slice none 0 0, .string ⟨#[]⟩, .slice none 0 0, .bool false, .int .u8 0, .int .u8 0, .int .i32 0, .string ⟨#[]⟩, .slice none 0 0, .slice none 0 0, .int .i64 0, .int .i64 0, .slice none 0 0, .int .i64 0, .int .i64 0]) = .ag [.v (.int .u8 0), .sl .full [], .v (.string ⟨#[]⟩), .sl .full [], .v (.bool false), .v (.int .u8 0), .v (.int .u8 0), .v (.int .i32 0), .v (.string ⟨#[]⟩), .sl .full [], .sl .full [], .v (.int .i64 0), .v (.int .i64 0), .sl .full [], .v (.int .i64 0), .v (.int .i64 0)] := by kernel_rfl
theorem tf_82 : tflds Try.prog 82 = some [(0, 1, false), (1, 1, false), (2, 1, false), (3, 1, false), (4, 1, false), (5, 8, true), (13, 1, false), (14, 2, true)] := by kernel_rfl
theorem nk_83 : nkT Try.prog 83 = some .nkf := by kernel_rfl
theorem nk_84 : nkT Try.prog 84 = some .nkp := by kernel_rfl
theorem td_84 : tdat Try.prog 84 = some ⟨false, 1, 8, .pointer none⟩ := by kernel_rfl
theorem zv_84 : ofV (.pointer none) = .v (.pointer none) := by kernel_rfl
theorem td_85 : tdat Try.prog 85 = some ⟨true, 3, 24, .agg #[.bool false, .int .i64 0, .int .i64 0]⟩ := by kernel_rfl
theorem zv_85 : ofV (.agg #[.bool false, .int .i64 0, .int .i64 0]) = .ag [.v (.bool false), .v (.int .i64 0), .v (.int .i64 0)] := by kernel_rfl
theorem tf_85 : tflds Try.prog 85 = some [(0, 1, false), (1, 2, true)] := by kernel_rfl
theorem td_86 : tdat Try.prog 86 = some ⟨true, 3, 24, .agg #[.bool false, .int .i64 0, .int .i64 0]⟩ := by kernel_rfl
theorem zv_86 : ofV (.agg #[.bool false, .int .i64 0, .int .i64 0]) = .ag [.v (.bool false), .v (.int .i64 0), .v (.int .i64 0)] := by kernel_rfl
theorem tf_86 : tflds Try.prog 86 = some [(0, 1, false), (1, 2, true)] := by kernel_rfl
theorem td_87 : tdat Try.prog 87 = some ⟨false, 1, 24, .slice none 0 0⟩ := by kernel_rfl
theorem zv_87 : ofV (.slice none 0 0) = .sl .full [] := by kernel_rfl
theorem tel_87 : tel Try.prog 87 = some 89 := by kernel_rfl
theorem td_88 : tdat Try.prog 88 = some ⟨true, 3, 48, .agg #[.string ⟨#[]⟩, .int .i64 0, .slice none 0 0]⟩ := by kernel_rfl
theorem zv_88 : ofV (.agg #[.string ⟨#[]⟩, .int .i64 0, .slice none 0 0]) = .ag [.v (.string ⟨#[]⟩), .v (.int .i64 0), .sl .full []] := by kernel_rfl
theorem tf_88 : tflds Try.prog 88 = some [(0, 1, false), (1, 1, false), (2, 1, false)] := by kernel_rfl
theorem td_89 : tdat Try.prog 89 = some ⟨true, 3, 48, .agg #[.string ⟨#[]⟩, .int .i64 0, .slice none 0 0]⟩ := by kernel_rfl
theorem zv_89 : ofV (.agg #[.string ⟨#[]⟩, .int .i64 0, .slice none 0 0]) = .ag [.v (.string ⟨#[]⟩), .v (.int .i64 0), .sl .full []] := by kernel_rfl
theorem tf_89 : tflds Try.prog 89 = some [(0, 1, false), (1, 1, false), (2, 1, false)] := by kernel_rfl
theorem nk_90 : nkT Try.prog 90 = some .nkf := by kernel_rfl
theorem nk_91 : nkT Try.prog 91 = some .nkf := by kernel_rfl
theorem td_92 : tdat Try.prog 92 = some ⟨false, 1, 24, .slice none 0 0⟩ := by kernel_rfl
theorem zv_92 : ofV (.slice none 0 0) = .sl .full [] := by kernel_rfl
theorem tel_92 : tel Try.prog 92 = some 50 := by kernel_rfl
theorem nk_93 : nkT Try.prog 93 = some .nkf := by kernel_rfl
theorem nk_94 : nkT Try.prog 94 = some .nkf := by kernel_rfl
theorem nk_95 : nkT Try.prog 95 = some .nkf := by kernel_rfl
theorem nk_96 : nkT Try.prog 96 = some .nkf := by kernel_rfl
theorem nk_97 : nkT Try.prog 97 = some .nkf := by kernel_rfl
theorem nk_98 : nkT Try.prog 98 = some .nkf := by kernel_rfl
theorem nk_99 : nkT Try.prog 99 = some .nkf := by kernel_rfl
theorem nk_100 : nkT Try.prog 100 = some .nkf := by kernel_rfl
theorem nk_101 : nkT Try.prog 101 = some .nkf := by kernel_rfl
theorem td_102 : tdat Try.prog 102 = some ⟨true, 3, 72, .agg #[.slice none 0 0, .slice none 0 0, .slice none 0 0]⟩ := by kernel_rfl
theorem zv_102 : ofV (.agg #[.slice none 0 0, .slice none 0 0, .slice none 0 0]) = .ag [.sl .full [], .sl .full [], .sl .full []] := by kernel_rfl
theorem tf_102 : tflds Try.prog 102 = some [(0, 1, false), (1, 1, false), (2, 1, false)] := by kernel_rfl
theorem td_103 : tdat Try.prog 103 = some ⟨true, 3, 72, .agg #[.slice none 0 0, .slice none 0 0, .slice none 0 0]⟩ := by kernel_rfl
theorem zv_103 : ofV (.agg #[.slice none 0 0, .slice none 0 0, .slice none 0 0]) = .ag [.sl .full [], .sl .full [], .sl .full []] := by kernel_rfl
theorem tf_103 : tflds Try.prog 103 = some [(0, 1, false), (1, 1, false), (2, 1, false)] := by kernel_rfl
theorem nk_104 : nkT Try.prog 104 = some .nkf := by kernel_rfl
theorem nk_105 : nkT Try.prog 105 = some .nkp := by kernel_rfl
theorem td_105 : tdat Try.prog 105 = some ⟨false, 1, 8, .pointer none⟩ := by kernel_rfl
theorem zv_105 : ofV (.pointer none) = .v (.pointer none) := by kernel_rfl
theorem td_106 : tdat Try.prog 106 = some ⟨true, 1, 8, .agg #[.int .i64 0]⟩ := by kernel_rfl
theorem zv_106 : ofV (.agg #[.int .i64 0]) = .ag [.v (.int .i64 0)] := by kernel_rfl
theorem tf_106 : tflds Try.prog 106 = some [(0, 1, false)] := by kernel_rfl
theorem fl_106 : flat1 Try.prog 106 = some [.ski] := by kernel_rfl
theorem td_107 : tdat Try.prog 107 = some ⟨true, 1, 8, .agg #[.int .i64 0]⟩ := by kernel_rfl
theorem zv_107 : ofV (.agg #[.int .i64 0]) = .ag [.v (.int .i64 0)] := by kernel_rfl
theorem tf_107 : tflds Try.prog 107 = some [(0, 1, false)] := by kernel_rfl
theorem fl_107 : flat1 Try.prog 107 = some [.ski] := by kernel_rfl
theorem nk_108 : nkT Try.prog 108 = some .nkf := by kernel_rfl
theorem nk_109 : nkT Try.prog 109 = some .nkf := by kernel_rfl
theorem nk_110 : nkT Try.prog 110 = some .nkf := by kernel_rfl
theorem td_111 : tdat Try.prog 111 = some ⟨false, 1, 24, .slice none 0 0⟩ := by kernel_rfl
theorem zv_111 : ofV (.slice none 0 0) = .sl .full [] := by kernel_rfl
theorem tel_111 : tel Try.prog 111 = some 116 := by kernel_rfl
theorem nk_112 : nkT Try.prog 112 = some .nkf := by kernel_rfl
theorem nk_113 : nkT Try.prog 113 = some .nkf := by kernel_rfl
theorem nk_114 : nkT Try.prog 114 = some .nkf := by kernel_rfl
theorem td_115 : tdat Try.prog 115 = some ⟨true, 12, 128, .agg #[.int .u8 0, .int .u8 0, .int .i32 0, .string ⟨#[]⟩, .slice none 0 0, .slice none 0 0, .int .i64 0, .int .i64 0, .string ⟨#[]⟩, .bool false, .int .i64 0, .int .i64 0]⟩ := by kernel_rfl
theorem zv_115 : ofV (.agg #[.int .u8 0, .int .u8 0, .int .i32 0, .string ⟨#[]⟩, .slice none 0 0, .slice none 0 0, .int .i64 0, .int .i64 0, .string ⟨#[]⟩, .bool false, .int .i64 0, .int .i64 0]) = .ag [.v (.int .u8 0), .v (.int .u8 0), .v (.int .i32 0), .v (.string ⟨#[]⟩), .sl .full [], .sl .full [], .v (.int .i64 0), .v (.int .i64 0), .v (.string ⟨#[]⟩), .v (.bool false), .v (.int .i64 0), .v (.int .i64 0)] := by kernel_rfl
theorem tf_115 : tflds Try.prog 115 = some [(0, 8, true), (8, 1, false), (9, 1, false), (10, 2, true)] := by kernel_rfl
theorem td_116 : tdat Try.prog 116 = some ⟨true, 12, 128, .agg #[.int .u8 0, .int .u8 0, .int .i32 0, .string ⟨#[]⟩, .slice none 0 0, .slice none 0 0, .int .i64 0, .int .i64 0, .string ⟨#[]⟩, .bool false, .int .i64 0, .int .i64 0]⟩ := by kernel_rfl
theorem zv_116 : ofV (.agg #[.int .u8 0, .int .u8 0, .int .i32 0, .string ⟨#[]⟩, .slice none 0 0, .slice none 0 0, .int .i64 0, .int .i64 0, .string ⟨#[]⟩, .bool false, .int .i64 0, .int .i64 0]) = .ag [.v (.int .u8 0), .v (.int .u8 0), .v (.int .i32 0), .v (.string ⟨#[]⟩), .sl .full [], .sl .full [], .v (.int .i64 0), .v (.int .i64 0), .v (.string ⟨#[]⟩), .v (.bool false), .v (.int .i64 0), .v (.int .i64 0)] := by kernel_rfl
theorem tf_116 : tflds Try.prog 116 = some [(0, 8, true), (8, 1, false), (9, 1, false), (10, 2, true)] := by kernel_rfl
theorem nk_117 : nkT Try.prog 117 = some .nki := by kernel_rfl
theorem td_117 : tdat Try.prog 117 = some ⟨false, 1, 16, .nilIface⟩ := by kernel_rfl
theorem zv_117 : ofV (.nilIface) = .v .nilIface := by kernel_rfl
theorem nk_118 : nkT Try.prog 118 = some .nki := by kernel_rfl
theorem td_118 : tdat Try.prog 118 = some ⟨false, 1, 16, .nilIface⟩ := by kernel_rfl
theorem zv_118 : ofV (.nilIface) = .v .nilIface := by kernel_rfl
theorem nk_119 : nkT Try.prog 119 = some .nkf := by kernel_rfl
theorem nk_120 : nkT Try.prog 120 = some .nkf := by kernel_rfl
theorem nk_121 : nkT Try.prog 121 = some .nkp := by kernel_rfl
theorem td_121 : tdat Try.prog 121 = some ⟨false, 1, 8, .pointer none⟩ := by kernel_rfl
theorem zv_121 : ofV (.pointer none) = .v (.pointer none) := by kernel_rfl
theorem td_122 : tdat Try.prog 122 = some ⟨true, 5, 56, .agg #[.int .i64 0, .int .i64 0, .string ⟨#[]⟩, .bool false, .nilIface]⟩ := by kernel_rfl
theorem zv_122 : ofV (.agg #[.int .i64 0, .int .i64 0, .string ⟨#[]⟩, .bool false, .nilIface]) = .ag [.v (.int .i64 0), .v (.int .i64 0), .v (.string ⟨#[]⟩), .v (.bool false), .v .nilIface] := by kernel_rfl
theorem tf_122 : tflds Try.prog 122 = some [(0, 2, true), (2, 1, false), (3, 1, false), (4, 1, false)] := by kernel_rfl
theorem td_123 : tdat Try.prog 123 = some ⟨true, 5, 56, .agg #[.int .i64 0, .int .i64 0, .string ⟨#[]⟩, .bool false, .nilIface]⟩ := by kernel_rfl
theorem zv_123 : ofV (.agg #[.int .i64 0, .int .i64 0, .string ⟨#[]⟩, .bool false, .nilIface]) = .ag [.v (.int .i64 0), .v (.int .i64 0), .v (.string ⟨#[]⟩), .v (.bool false), .v .nilIface] := by kernel_rfl
theorem tf_123 : tflds Try.prog 123 = some [(0, 2, true), (2, 1, false), (3, 1, false), (4, 1, false)] := by kernel_rfl
theorem nk_125 : nkT Try.prog 125 = some .nkf := by kernel_rfl
theorem nk_126 : nkT Try.prog 126 = some .nkf := by kernel_rfl
theorem nk_127 : nkT Try.prog 127 = some .nkf := by kernel_rfl
theorem nk_128 : nkT Try.prog 128 = some .nkf := by kernel_rfl
theorem td_129 : tdat Try.prog 129 = some ⟨true, 7, 128, .agg #[.string ⟨#[]⟩, .slice none 0 0, .slice none 0 0, .slice none 0 0, .slice none 0 0, .int .i64 0, .int .i64 0]⟩ := by kernel_rfl
theorem zv_129 : ofV (.agg #[.string ⟨#[]⟩, .slice none 0 0, .slice none 0 0, .slice none 0 0, .slice none 0 0, .int .i64 0, .int .i64 0]) = .ag [.v (.string ⟨#[]⟩), .sl .full [], .sl .full [], .sl .full [], .sl .full [], .v (.int .i64 0), .v (.int .i64 0)] := by kernel_rfl
theorem tf_129 : tflds Try.prog 129 = some [(0, 1, false), (1, 2, true), (3, 1, false), (4, 1, false), (5, 2, true)] := by kernel_rfl
theorem td_130 : tdat Try.prog 130 = some ⟨true, 7, 128, .agg #[.string ⟨#[]⟩, .slice none 0 0, .slice none 0 0, .slice none 0 0, .slice none 0 0, .int .i64 0, .int .i64 0]⟩ := by kernel_rfl
theorem zv_130 : ofV (.agg #[.string ⟨#[]⟩, .slice none 0 0, .slice none 0 0, .slice none 0 0, .slice none 0 0, .int .i64 0, .int .i64 0]) = .ag [.v (.string ⟨#[]⟩), .sl .full [], .sl .full [], .sl .full [], .sl .full [], .v (.int .i64 0), .v (.int .i64 0)] := by kernel_rfl
theorem tf_130 : tflds Try.prog 130 = some [(0, 1, false), (1, 2, true), (3, 1, false), (4, 1, false), (5, 2, true)] := by kernel_rfl
theorem nk_131 : nkT Try.prog 131 = some .nkf := by kernel_rfl
theorem td_132 : tdat Try.prog 132 = some ⟨false, 1, 24, .slice none 0 0⟩ := by kernel_rfl
theorem zv_132 : ofV (.slice none 0 0) = .sl .full [] := by kernel_rfl
theorem tel_132 : tel Try.prog 132 = some 21 := by kernel_rfl
theorem nk_133 : nkT Try.prog 133 = some .nkf := by kernel_rfl
theorem nk_134 : nkT Try.prog 134 = some .nkf := by kernel_rfl
theorem nk_136 : nkT Try.prog 136 = some .nkf := by kernel_rfl
theorem nk_137 : nkT Try.prog 137 = some .nkf := by kernel_rfl
theorem nk_138 : nkT Try.prog 138 = some .nkf := by kernel_rfl
theorem nk_139 : nkT Try.prog 139 = some .nkf := by kernel_rfl
theorem nk_140 : nkT Try.prog 140 = some .nkf := by kernel_rfl
theorem td_141 : tdat Try.prog 141 = some ⟨true, 1, 8, .agg #[.pointer none]⟩ := by kernel_rfl
theorem zv_141 : ofV (.agg #[.pointer none]) = .ag [.v (.pointer none)] := by kernel_rfl
theorem tf_141 : tflds Try.prog 141 = some [(0, 1, false)] := by kernel_rfl
theorem td_142 : tdat Try.prog 142 = some ⟨true, 1, 8, .agg #[.pointer none]⟩ := by kernel_rfl
theorem zv_142 : ofV (.agg #[.pointer none]) = .ag [.v (.pointer none)] := by kernel_rfl
theorem tf_142 : tflds Try.prog 142 = some [(0, 1, false)] := by kernel_rfl
theorem nk_143 : nkT Try.prog 143 = some .nkp := by kernel_rfl
theorem td_143 : tdat Try.prog 143 = some ⟨false, 1, 8, .pointer none⟩ := by kernel_rfl
theorem zv_143 : ofV (.pointer none) = .v (.pointer none) := by kernel_rfl
theorem nk_144 : nkT Try.prog 144 = some .nki := by kernel_rfl
theorem td_144 : tdat Try.prog 144 = some ⟨false, 1, 16, .nilIface⟩ := by kernel_rfl
theorem zv_144 : ofV (.nilIface) = .v .nilIface := by kernel_rfl
theorem nk_146 : nkT Try.prog 146 = some .nkf := by kernel_rfl
theorem nk_147 : nkT Try.prog 147 = some .nki := by kernel_rfl
theorem td_147 : tdat Try.prog 147 = some ⟨false, 1, 16, .nilIface⟩ := by kernel_rfl
theorem zv_147 : ofV (.nilIface) = .v .nilIface := by kernel_rfl
theorem nk_148 : nkT Try.prog 148 = some .nkf := by kernel_rfl
theorem nk_149 : nkT Try.prog 149 = some .nki := by kernel_rfl
theorem td_149 : tdat Try.prog 149 = some ⟨false, 1, 16, .nilIface⟩ := by kernel_rfl
theorem zv_149 : ofV (.nilIface) = .v .nilIface := by kernel_rfl
theorem td_150 : tdat Try.prog 150 = some ⟨false, 1, 24, .slice none 0 0⟩ := by kernel_rfl
theorem zv_150 : ofV (.slice none 0 0) = .sl .full [] := by kernel_rfl
theorem tel_150 : tel Try.prog 150 = some 25 := by kernel_rfl
theorem nk_151 : nkT Try.prog 151 = some .nkf := by kernel_rfl
theorem nk_152 : nkT Try.prog 152 = some .nkf := by kernel_rfl
theorem nk_153 : nkT Try.prog 153 = some .nkf := by kernel_rfl
theorem nk_154 : nkT Try.prog 154 = some .nkf := by kernel_rfl
theorem nk_155 : nkT Try.prog 155 = some .nkf := by kernel_rfl
theorem nk_156 : nkT Try.prog 156 = some .nkf := by kernel_rfl
theorem nk_157 : nkT Try.prog 157 = some .nkf := by kernel_rfl
theorem nk_158 : nkT Try.prog 158 = some .nkf := by kernel_rfl
theorem nk_159 : nkT Try.prog 159 = some .nkf := by kernel_rfl
theorem nk_160 : nkT Try.prog 160 = some .nkf := by kernel_rfl
theorem nk_161 : nkT Try.prog 161 = some .nkf := by kernel_rfl
theorem nk_163 : nkT Try.prog 163 = some .nkf := by kernel_rfl
theorem nk_164 : nkT Try.prog 164 = some .nkf := by kernel_rfl
theorem nk_165 : nkT Try.prog 165 = some .nkf := by kernel_rfl
theorem nk_166 : nkT Try.prog 166 = some .nkf := by kernel_rfl
theorem nk_167 : nkT Try.prog 167 = some .nkf := by kernel_rfl
theorem nk_168 : nkT Try.prog 168 = some .nkf := by kernel_rfl
theorem nk_169 : nkT Try.prog 169 = some .nkf := by kernel_rfl
theorem td_170 : tdat Try.prog 170 = some ⟨true, 4, 40, .agg #[.pointer none, .pointer none, .pointer none, .string ⟨#[]⟩]⟩ := by kernel_rfl
theorem zv_170 : ofV (.agg #[.pointer none, .pointer none, .pointer none, .string ⟨#[]⟩]) = .ag [.v (.pointer none), .v (.pointer none), .v (.pointer none), .v (.string ⟨#[]⟩)] := by kernel_rfl
theorem tf_170 : tflds Try.prog 170 = some [(0, 1, false), (1, 1, false), (2, 1, false), (3, 1, false)] := by kernel_rfl
theorem td_171 : tdat Try.prog 171 = some ⟨true, 4, 40, .agg #[.pointer none, .pointer none, .pointer none, .string ⟨#[]⟩]⟩ := by kernel_rfl
theorem zv_171 : ofV (.agg #[.pointer none, .pointer none, .pointer none, .string ⟨#[]⟩]) = .ag [.v (.pointer none), .v (.pointer none), .v (.pointer none), .v (.string ⟨#[]⟩)] := by kernel_rfl
theorem tf_171 : tflds Try.prog 171 = some [(0, 1, false), (1, 1, false), (2, 1, false), (3, 1, false)] := by kernel_rfl
theorem td_172 : tdat Try.prog 172 = some ⟨true, 0, 0, .agg #[]⟩ := by kernel_rfl
theorem zv_172 : ofV (.agg #[]) = .ag [] := by kernel_rfl
theorem tf_172 : tflds Try.prog 172 = none := by kernel_rfl
theorem tel_172 : tel Try.prog 172 = none := by kernel_rfl
theorem ta_172 : tarr Try.prog 172 = some (0, 16) := by kernel_rfl
theorem td_173 : tdat Try.prog 173 = some ⟨true, 0, 0, .agg #[]⟩ := by kernel_rfl
theorem zv_173 : ofV (.agg #[]) = .ag [] := by kernel_rfl
theorem tf_173 : tflds Try.prog 173 = some [(0, 0, true)] := by kernel_rfl
theorem td_174 : tdat Try.prog 174 = some ⟨true, 0, 0, .agg #[]⟩ := by kernel_rfl
theorem zv_174 : ofV (.agg #[]) = .ag [] := by kernel_rfl
theorem tf_174 : tflds Try.prog 174 = some [(0, 0, true)] := by kernel_rfl
theorem nk_175 : nkT Try.prog 175 = some .nkf := by kernel_rfl
theorem td_176 : tdat Try.prog 176 = some ⟨false, 1, 4, .int .u32 0⟩ := by kernel_rfl
theorem zv_176 : ofV (.int .u32 0) = .v (.int .u32 0) := by kernel_rfl
theorem td_177 : tdat Try.prog 177 = some ⟨false, 1, 1, .int .u8 0⟩ := by kernel_rfl
theorem zv_177 : ofV (.int .u8 0) = .v (.int .u8 0) := by kernel_rfl
theorem td_178 : tdat Try.prog 178 = some ⟨false, 1, 1, .int .u8 0⟩ := by kernel_rfl
theorem zv_178 : ofV (.int .u8 0) = .v (.int .u8 0) := by kernel_rfl
theorem nk_179 : nkT Try.prog 179 = some .nkf := by kernel_rfl
theorem nk_180 : nkT Try.prog 180 = some .nkp := by kernel_rfl
theorem td_180 : tdat Try.prog 180 = some ⟨false, 1, 8, .pointer none⟩ := by kernel_rfl
theorem zv_180 : ofV (.pointer none) = .v (.pointer none) := by kernel_rfl
theorem td_181 : tdat Try.prog 181 = some ⟨false, 1, 4, .int .i32 0⟩ := by kernel_rfl
theorem zv_181 : ofV (.int .i32 0) = .v (.int .i32 0) := by kernel_rfl
theorem td_182 : tdat Try.prog 182 = some ⟨false, 1, 4, .int .i32 0⟩ := by kernel_rfl
theorem zv_182 : ofV (.int .i32 0) = .v (.int .i32 0) := by kernel_rfl
theorem td_183 : tdat Try.prog 183 = some ⟨true, 11, 48, .agg #[.int .u64 0, .int .u64 0, .int .u32 0, .int .u8 0, .int .u8 0, .int .u8 0, .int .u8 0, .nilFunc, .pointer none, .int .i32 0, .int .i32 0]⟩ := by kernel_rfl
theorem zv_183 : ofV (.agg #[.int .u64 0, .int .u64 0, .int .u32 0, .int .u8 0, .int .u8 0, .int .u8 0, .int .u8 0, .nilFunc, .pointer none, .int .i32 0, .int .i32 0]) = .ag [.v (.int .u64 0), .v (.int .u64 0), .v (.int .u32 0), .v (.int .u8 0), .v (.int .u8 0), .v (.int .u8 0), .v (.int .u8 0), .v .nilFunc, .v (.pointer none), .v (.int .i32 0), .v (.int .i32 0)] := by kernel_rfl
theorem tf_183 : tflds Try.prog 183 = some [(0, 1, false), (1, 1, false), (2, 1, false), (3, 1, false), (4, 1, false), (5, 1, false), (6, 1, false), (7, 1, false), (8, 1, false), (9, 1, false), (10, 1, false)] := by kernel_rfl
theorem td_184 : tdat Try.prog 184 = some ⟨true, 11, 48, .agg #[.int .u64 0, .int .u64 0, .int .u32 0, .int .u8 0, .int .u8 0, .int .u8 0, .int .u8 0, .nilFunc, .pointer none, .int .i32 0, .int .i32 0]⟩ := by kernel_rfl
theorem zv_184 : ofV (.agg #[.int .u64 0, .int .u64 0, .int .u32 0, .int .u8 0, .int .u8 0, .int .u8 0, .int .u8 0, .nilFunc, .pointer none, .int .i32 0, .int .i32 0]) = .ag [.v (.int .u64 0), .v (.int .u64 0), .v (.int .u32 0), .v (.int .u8 0), .v (.int .u8 0), .v (.int .u8 0), .v (.int .u8 0), .v .nilFunc, .v (.pointer none), .v (.int .i32 0), .v (.int .i32 0)] := by kernel_rfl
theorem tf_184 : tflds Try.prog 184 = some [(0, 1, false), (1, 1, false), (2, 1, false), (3, 1, false), (4, 1, false), (5, 1, false), (6, 1, false), (7, 1, false), (8, 1, false), (9, 1, false), (10, 1, false)] := by kernel_rfl
theorem nk_185 : nkT Try.prog 185 = some .nkf := by kernel_rfl
theorem nk_186 : nkT Try.prog 186 = some .nkf := by kernel_rfl
theorem nk_187 : nkT Try.prog 187 = some .nkf := by kernel_rfl
theorem nk_188 : nkT Try.prog 188 = some .nkf := by kernel_rfl
theorem nk_189 : nkT Try.prog 189 = some .nkf := by kernel_rfl
theorem nk_190 : nkT Try.prog 190 = some .nkf := by kernel_rfl
theorem td_191 : tdat Try.prog 191 = some ⟨true, 2, 24, .agg #[.string ⟨#[]⟩, .int .u8 0]⟩ := by kernel_rfl
theorem zv_191 : ofV (.agg #[.string ⟨#[]⟩, .int .u8 0]) = .ag [.v (.string ⟨#[]⟩), .v (.int .u8 0)] := by kernel_rfl
theorem tf_191 : tflds Try.prog 191 = some [(0, 1, false), (1, 1, false)] := by kernel_rfl
theorem td_192 : tdat Try.prog 192 = some ⟨true, 2, 24, .agg #[.string ⟨#[]⟩, .int .u8 0]⟩ := by kernel_rfl
theorem zv_192 : ofV (.agg #[.string ⟨#[]⟩, .int .u8 0]) = .ag [.v (.string ⟨#[]⟩), .v (.int .u8 0)] := by kernel_rfl
theorem tf_192 : tflds Try.prog 192 = some [(0, 1, false), (1, 1, false)] := by kernel_rfl
theorem td_193 : tdat Try.prog 193 = some ⟨false, 1, 8, .pointer none⟩ := by kernel_rfl
theorem zv_193 : ofV (.pointer none) = .v (.pointer none) := by kernel_rfl
theorem nk_194 : nkT Try.prog 194 = some .nkp := by kernel_rfl
theorem td_194 : tdat Try.prog 194 = some ⟨false, 1, 8, .pointer none⟩ := by kernel_rfl
theorem zv_194 : ofV (.pointer none) = .v (.pointer none) := by kernel_rfl
theorem nk_195 : nkT Try.prog 195 = some .nkf := by kernel_rfl
theorem td_196 : tdat Try.prog 196 = some ⟨false, 1, 2, .int .u16 0⟩ := by kernel_rfl
theorem zv_196 : ofV (.int .u16 0) = .v (.int .u16 0) := by kernel_rfl
theorem td_197 : tdat Try.prog 197 = some ⟨true, 5, 16, .agg #[.int .i32 0, .int .u16 0, .int .u16 0, .int .u32 0, .int .u32 0]⟩ := by kernel_rfl
theorem zv_197 : ofV (.agg #[.int .i32 0, .int .u16 0, .int .u16 0, .int .u32 0, .int .u32 0]) = .ag [.v (.int .i32 0), .v (.int .u16 0), .v (.int .u16 0), .v (.int .u32 0), .v (.int .u32 0)] := by kernel_rfl
theorem tf_197 : tflds Try.prog 197 = some [(0, 1, false), (1, 1, false), (2, 1, false), (3, 1, false), (4, 1, false)] := by kernel_rfl
theorem td_198 : tdat Try.prog 198 = some ⟨true, 5, 16, .agg #[.int .i32 0, .int .u16 0, .int .u16 0, .int .u32 0, .int .u32 0]⟩ := by kernel_rfl
theorem zv_198 : ofV (.agg #[.int .i32 0, .int .u16 0, .int .u16 0, .int .u32 0, .int .u32 0]) = .ag [.v (.int .i32 0), .v (.int .u16 0), .v (.int .u16 0), .v (.int .u32 0), .v (.int .u32 0)] := by kernel_rfl
theorem tf_198 : tflds Try.prog 198 = some [(0, 1, false), (1, 1, false), (2, 1, false), (3, 1, false), (4, 1, false)] := by kernel_rfl
theorem td_199 : tdat Try.prog 199 = some ⟨false, 1, 24, .slice none 0 0⟩ := by kernel_rfl
theorem zv_199 : ofV (.slice none 0 0) = .sl .full [] := by kernel_rfl
theorem tel_199 : tel Try.prog 199 = some 202 := by kernel_rfl
theorem td_200 : tdat Try.prog 200 = some ⟨false, 1, 4, .int .i32 0⟩ := by kernel_rfl
theorem zv_200 : ofV (.int .i32 0) = .v (.int .i32 0) := by kernel_rfl
theorem td_201 : tdat Try.prog 201 = some ⟨true, 4, 16, .agg #[.int .i32 0, .int .i32 0, .int .i32 0, .int .i32 0]⟩ := by kernel_rfl
theorem zv_201 : ofV (.agg #[.int .i32 0, .int .i32 0, .int .i32 0, .int .i32 0]) = .ag [.v (.int .i32 0), .v (.int .i32 0), .v (.int .i32 0), .v (.int .i32 0)] := by kernel_rfl
theorem tf_201 : tflds Try.prog 201 = some [(0, 1, false), (1, 1, false), (2, 1, false), (3, 1, false)] := by kernel_rfl
theorem td_202 : tdat Try.prog 202 = some ⟨true, 4, 16, .agg #[.int .i32 0, .int .i32 0, .int .i32 0, .int .i32 0]⟩ := by kernel_rfl
theorem zv_202 : ofV (.agg #[.int .i32 0, .int .i32 0, .int .i32 0, .int .i32 0]) = .ag [.v (.int .i32 0), .v (.int .i32 0), .v (.int .i32 0), .v (.int .i32 0)] := by kernel_rfl
theorem tf_202 : tflds Try.prog 202 = some [(0, 1, false), (1, 1, false), (2, 1, false), (3, 1, false)] := by kernel_rfl
set_option linter.defProp false
def tfA0 := And.intro @nk_1 (And.intro @td_2 (And.intro @zv_2 (And.intro @Try.underlying2 (And.intro @td_3 (And.intro @zv_3 (And.intro @Try.underlying3 (And.intro @td_4 (And.intro @zv_4 (And.intro @Try.underlying4 (And.intro @td_5 (And.intro @zv_5 (And.intro @Try.underlying5 (And.intro @td_6 (And.intro @zv_6 (And.intro @Try.underlying6 (And.intro @td_7 (And.intro @zv_7 (And.intro @tf_7 (And.intro @td_8 (And.intro @zv_8 (And.intro @tf_8 (And.intro @td_9 (And.intro @zv_9 (And.intro @Try.underlying9 (And.intro @td_10 (And.intro @zv_10 (And.intro @Try.underlying10 (And.intro @td_11 @zv_11))))))))))))))))))))))))))))
def tfA1 := And.intro @Try.underlying11 (And.intro @td_12 (And.intro @zv_12 (And.intro @Try.underlying12 (And.intro @td_13 (And.intro @zv_13 (And.intro @tf_13 (And.intro @td_14 (And.intro @zv_14 (And.intro @tf_14 (And.intro @nk_15 (And.intro @td_15 (And.intro @zv_15 (And.intro @Try.underlying15 (And.intro @nk_16 (And.intro @td_16 (And.intro @zv_16 (And.intro @Try.underlying16 (And.intro @nk_17 (And.intro @td_17 (And.intro @zv_17 (And.intro @Try.underlying17 (And.intro @td_18 (And.intro @zv_18 (And.intro @tf_18 (And.intro @td_19 (And.intro @zv_19 (And.intro @tf_19 (And.intro @nk_20 @td_20))))))))))))))))))))))))))))
def tfA2 := And.intro @zv_20 (And.intro @td_21 (And.intro @zv_21 (And.intro @Try.underlying21 (And.intro @td_22 (And.intro @zv_22 (And.intro @tel_22 (And.intro @Try.underlying22 (And.intro @nk_23 (And.intro @nk_24 (And.intro @td_24 (And.intro @zv_24 (And.intro @nk_25 (And.intro @td_25 (And.intro @zv_25 (And.intro @nk_26 (And.intro @td_27 (And.intro @zv_27 (And.intro @tel_27 (And.intro @Try.underlying27 (And.intro @td_28 (And.intro @zv_28 (And.intro @tel_28 (And.intro @Try.underlying28 (And.intro @td_29 (And.intro @zv_29 (And.intro @tf_29 (And.intro @td_30 (And.intro @zv_30 @tf_30))))))))))))))))))))))))))))
def tfA3 := And.intro @nk_31 (And.intro @nk_32 (And.intro @td_33 (And.intro @zv_33 (And.intro @tel_33 (And.intro @Try.underlying33 (And.intro @nk_34 (And.intro @td_35 (And.intro @zv_35 (And.intro @tel_35 (And.intro @Try.underlying35 (And.intro @td_36 (And.intro @zv_36 (And.intro @tel_36 (And.intro @Try.underlying36 (And.intro @td_37 (And.intro @zv_37 (And.intro @tel_37 (And.intro @Try.underlying37 (And.intro @td_38 (And.intro @zv_38 (And.intro @tf_38 (And.intro @fl_38 (And.intro @td_39 (And.intro @zv_39 (And.intro @tf_39 (And.intro @fl_39 (And.intro @td_40 (And.intro @zv_40 @tf_40))))))))))))))))))))))))))))
def tfA4 := And.intro @td_41 (And.intro @zv_41 (And.intro @tf_41 (And.intro @nk_42 (And.intro @nk_44 (And.intro @nk_45 (And.intro @td_46 (And.intro @zv_46 (And.intro @Try.underlying46 (And.intro @nk_47 (And.intro @td_48 (And.intro @zv_48 (And.intro @tf_48 (And.intro @td_49 (And.intro @zv_49 (And.intro @tf_49 (And.intro @td_50 (And.intro @zv_50 (And.intro @tel_50 (And.intro @Try.underlying50 (And.intro @td_51 (And.intro @zv_51 (And.intro @tel_51 (And.intro @Try.underlying51 (And.intro @td_52 (And.intro @zv_52 (And.intro @tf_52 (And.intro @td_53 (And.intro @zv_53 @tf_53))))))))))))))))))))))))))))
def tfA5 := And.intro @td_54 (And.intro @zv_54 (And.intro @tf_54 (And.intro @td_55 (And.intro @zv_55 (And.intro @tf_55 (And.intro @td_56 (And.intro @zv_56 (And.intro @tel_56 (And.intro @Try.underlying56 (And.intro @td_57 (And.intro @zv_57 (And.intro @tf_57 (And.intro @td_58 (And.intro @zv_58 (And.intro @tf_58 (And.intro @nk_59 (And.intro @td_60 (And.intro @zv_60 (And.intro @tf_60 (And.intro @fl_60 (And.intro @td_61 (And.intro @zv_61 (And.intro @tf_61 (And.intro @fl_61 (And.intro @td_62 (And.intro @zv_62 (And.intro @tf_62 (And.intro @td_63 @zv_63))))))))))))))))))))))))))))
def tfA6 := And.intro @tf_63 (And.intro @nk_64 (And.intro @td_65 (And.intro @zv_65 (And.intro @tf_65 (And.intro @td_66 (And.intro @zv_66 (And.intro @tf_66 (And.intro @nk_67 (And.intro @nk_68 (And.intro @td_68 (And.intro @zv_68 (And.intro @Try.underlying68 (And.intro @td_69 (And.intro @zv_69 (And.intro @tf_69 (And.intro @td_70 (And.intro @zv_70 (And.intro @tf_70 (And.intro @td_71 (And.intro @zv_71 (And.intro @tf_71 (And.intro @td_72 (And.intro @zv_72 (And.intro @tf_72 (And.intro @nk_73 (And.intro @nk_74 (And.intro @td_74 (And.intro @zv_74 @Try.underlying74))))))))))))))))))))))))))))
def tfA7 := And.intro @td_75 (And.intro @zv_75 (And.intro @tf_75 (And.intro @td_76 (And.intro @zv_76 (And.intro @tf_76 (And.intro @nk_77 (And.intro @td_78 (And.intro @zv_78 (And.intro @tf_78 (And.intro @fl_78 (And.intro @td_79 (And.intro @zv_79 (And.intro @tf_79 (And.intro @fl_79 (And.intro @td_80 (And.intro @zv_80 (And.intro @tel_80 (And.intro @Try.underlying80 (And.intro @td_81 (And.intro @zv_81 (And.intro @tf_81 (And.intro @td_82 (And.intro @zv_82 (And.intro @tf_82 (And.intro @nk_83 (And.intro @nk_84 (And.intro @td_84 (And.intro @zv_84 @Try.underlying84))))))))))))))))))))))))))))
def tfA8 := And.intro @td_85 (And.intro @zv_85 (And.intro @tf_85 (And.intro @td_86 (And.intro @zv_86 (And.intro @tf_86 (And.intro @td_87 (And.intro @zv_87 (And.intro @tel_87 (And.intro @Try.underlying87 (And.intro @td_88 (And.intro @zv_88 (And.intro @tf_88 (And.intro @td_89 (And.intro @zv_89 (And.intro @tf_89 (And.intro @nk_90 (And.intro @nk_91 (And.intro @td_92 (And.intro @zv_92 (And.intro @tel_92 (And.intro @Try.underlying92 (And.intro @nk_93 (And.intro @nk_94 (And.intro @nk_95 (And.intro @nk_96 (And.intro @nk_97 (And.intro @nk_98 (And.intro @nk_99 @nk_100))))))))))))))))))))))))))))
def tfA9 := And.intro @nk_101 (And.intro @td_102 (And.intro @zv_102 (And.intro @tf_102 (And.intro @td_103 (And.intro @zv_103 (And.intro @tf_103 (And.intro @nk_104 (And.intro @nk_105 (And.intro @td_105 (And.intro @zv_105 (And.intro @Try.underlying105 (And.intro @td_106 (And.intro @zv_106 (And.intro @tf_106 (And.intro @fl_106 (And.intro @td_107 (And.intro @zv_107 (And.intro @tf_107 (And.intro @fl_107 (And.intro @nk_108 (And.intro @nk_109 (And.intro @nk_110 (And.intro @td_111 (And.intro @zv_111 (And.intro @tel_111 (And.intro @Try.underlying111 (And.intro @nk_112 (And.intro @nk_113 @nk_114))))))))))))))))))))))))))))
def tfA10 := And.intro @td_115 (And.intro @zv_115 (And.intro @tf_115 (And.intro @td_116 (And.intro @zv_116 (And.intro @tf_116 (And.intro @nk_117 (And.intro @td_117 (And.intro @zv_117 (And.intro @nk_118 (And.intro @td_118 (And.intro @zv_118 (And.intro @nk_119 (And.intro @nk_120 (And.intro @nk_121 (And.intro @td_121 (And.intro @zv_121 (And.intro @Try.underlying121 (And.intro @td_122 (And.intro @zv_122 (And.intro @tf_122 (And.intro @td_123 (And.intro @zv_123 (And.intro @tf_123 (And.intro @nk_125 (And.intro @nk_126 (And.intro @nk_127 (And.intro @nk_128 (And.intro @td_129 @zv_129))))))))))))))))))))))))))))
def tfA11 := And.intro @tf_129 (And.intro @td_130 (And.intro @zv_130 (And.intro @tf_130 (And.intro @nk_131 (And.intro @td_132 (And.intro @zv_132 (And.intro @tel_132 (And.intro @Try.underlying132 (And.intro @nk_133 (And.intro @nk_134 (And.intro @nk_136 (And.intro @nk_137 (And.intro @nk_138 (And.intro @nk_139 (And.intro @nk_140 (And.intro @td_141 (And.intro @zv_141 (And.intro @tf_141 (And.intro @td_142 (And.intro @zv_142 (And.intro @tf_142 (And.intro @nk_143 (And.intro @td_143 (And.intro @zv_143 (And.intro @Try.underlying143 (And.intro @nk_144 (And.intro @td_144 (And.intro @zv_144 @nk_146))))))))))))))))))))))))))))
def tfA12 := And.intro @nk_147 (And.intro @td_147 (And.intro @zv_147 (And.intro @nk_148 (And.intro @nk_149 (And.intro @td_149 (And.intro @zv_149 (And.intro @td_150 (And.intro @zv_150 (And.intro @tel_150 (And.intro @Try.underlying150 (And.intro @nk_151 (And.intro @nk_152 (And.intro @nk_153 (And.intro @nk_154 (And.intro @nk_155 (And.intro @nk_156 (And.intro @nk_157 (And.intro @nk_158 (And.intro @nk_159 (And.intro @nk_160 (And.intro @nk_161 (And.intro @nk_163 (And.intro @nk_164 (And.intro @nk_165 (And.intro @nk_166 (And.intro @nk_167 (And.intro @nk_168 (And.intro @nk_169 @td_170))))))))))))))))))))))))))))
def tfA13 := And.intro @zv_170 (And.intro @tf_170 (And.intro @td_171 (And.intro @zv_171 (And.intro @tf_171 (And.intro @td_172 (And.intro @zv_172 (And.intro @tf_172 (And.intro @tel_172 (And.intro @ta_172 (And.intro @Try.underlying172 (And.intro @td_173 (And.intro @zv_173 (And.intro @tf_173 (And.intro @td_174 (And.intro @zv_174 (And.intro @tf_174 (And.intro @nk_175 (And.intro @td_176 (And.intro @zv_176 (And.intro @Try.underlying176 (And.intro @td_177 (And.intro @zv_177 (And.intro @Try.underlying177 (And.intro @td_178 (And.intro @zv_178 (And.intro @Try.underlying178 (And.intro @nk_179 (And.intro @nk_180 @td_180))))))))))))))))))))))))))))
def tfA14 := And.intro @zv_180 (And.intro @Try.underlying180 (And.intro @td_181 (And.intro @zv_181 (And.intro @Try.underlying181 (And.intro @td_182 (And.intro @zv_182 (And.intro @Try.underlying182 (And.intro @td_183 (And.intro @zv_183 (And.intro @tf_183 (And.intro @td_184 (And.intro @zv_184 (And.intro @tf_184 (And.intro @nk_185 (And.intro @nk_186 (And.intro @nk_187 (And.intro @nk_188 (And.intro @nk_189 (And.intro @nk_190 (And.intro @td_191 (And.intro @zv_191 (And.intro @tf_191 (And.intro @td_192 (And.intro @zv_192 (And.intro @tf_192 (And.intro @td_193 (And.intro @zv_193 (And.intro @nk_194 @td_194))))))))))))))))))))))))))))
def tfA15 := And.intro @zv_194 (And.intro @Try.underlying194 (And.intro @nk_195 (And.intro @td_196 (And.intro @zv_196 (And.intro @Try.underlying196 (And.intro @td_197 (And.intro @zv_197 (And.intro @tf_197 (And.intro @td_198 (And.intro @zv_198 (And.intro @tf_198 (And.intro @td_199 (And.intro @zv_199 (And.intro @tel_199 (And.intro @Try.underlying199 (And.intro @td_200 (And.intro @zv_200 (And.intro @Try.underlying200 (And.intro @td_201 (And.intro @zv_201 (And.intro @tf_201 (And.intro @td_202 (And.intro @zv_202 @tf_202)))))))))))))))))))))))
def tfA := And.intro @tfA0 (And.intro @tfA1 (And.intro @tfA2 (And.intro @tfA3 (And.intro @tfA4 (And.intro @tfA5 (And.intro @tfA6 (And.intro @tfA7 (And.intro @tfA8 (And.intro @tfA9 (And.intro @tfA10 (And.intro @tfA11 (And.intro @tfA12 (And.intro @tfA13 (And.intro @tfA14 @tfA15))))))))))))))
end Go.Proofs.Ytamdnlnoioglnaa
