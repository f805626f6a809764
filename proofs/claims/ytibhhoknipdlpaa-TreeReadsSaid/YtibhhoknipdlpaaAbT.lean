/-
  Closed facts on the types of this seat.
-/
import Derived.Test.YtibhhoknipdlpaaRows
import Derived.Test.YtibhhoknipdlpaaAbFn
import Derived.KernelRfl
namespace Go.Proofs.Ytibhhoknipdlpaa
open Go Go.RowKit
theorem ok_mix : Try.prog.follows .mixedOrders = true := by kernel_rfl
theorem td_2 : tdat Try.prog 2 = some ⟨false, 1, 8, .int .i64 0⟩ := by kernel_rfl
theorem zv_2 : ofV (.int .i64 0) = .v (.int .i64 0) := by kernel_rfl
theorem td_3 : tdat Try.prog 3 = some ⟨false, 1, 8, .int .i64 0⟩ := by kernel_rfl
theorem zv_3 : ofV (.int .i64 0) = .v (.int .i64 0) := by kernel_rfl
theorem td_4 : tdat Try.prog 4 = some ⟨false, 1, 1, .bool false⟩ := by kernel_rfl
theorem zv_4 : ofV (.bool false) = .v (.bool false) := by kernel_rfl
theorem td_5 : tdat Try.prog 5 = some ⟨false, 1, 1, .int .u8 0⟩ := by kernel_rfl
theorem zv_5 : ofV (.int .u8 0) = .v (.int .u8 0) := by kernel_rfl
theorem td_6 : tdat Try.prog 6 = some ⟨false, 1, 1, .int .u8 0⟩ := by kernel_rfl
theorem zv_6 : ofV (.int .u8 0) = .v (.int .u8 0) := by kernel_rfl
theorem td_7 : tdat Try.prog 7 = some ⟨true, 4, 24, .agg #[.int .i64 0, .int .i64 0, .bool false, .int .u8 0]⟩ := by kernel_rfl
theorem zv_7 : ofV (.agg #[.int .i64 0, .int .i64 0, .bool false, .int .u8 0]) = .ag [.v (.int .i64 0), .v (.int .i64 0), .v (.bool false), .v (.int .u8 0)] := by kernel_rfl
theorem tf_7 : tflds Try.prog 7 = some [(0, 1, false), (1, 1, false), (2, 1, false), (3, 1, false)] := by kernel_rfl
theorem td_8 : tdat Try.prog 8 = some ⟨true, 4, 24, .agg #[.int .i64 0, .int .i64 0, .bool false, .int .u8 0]⟩ := by kernel_rfl
theorem zv_8 : ofV (.agg #[.int .i64 0, .int .i64 0, .bool false, .int .u8 0]) = .ag [.v (.int .i64 0), .v (.int .i64 0), .v (.bool false), .v (.int .u8 0)] := by kernel_rfl
theorem tf_8 : tflds Try.prog 8 = some [(0, 1, false), (1, 1, false), (2, 1, false), (3, 1, false)] := by kernel_rfl
theorem td_9 : tdat Try.prog 9 = some ⟨false, 1, 16, .string ⟨#[]⟩⟩ := by kernel_rfl
theorem zv_9 : ofV (.string ⟨#[]⟩) = .v (.string ⟨#[]⟩) := by kernel_rfl
theorem td_10 : tdat Try.prog 10 = some ⟨false, 1, 16, .string ⟨#[]⟩⟩ := by kernel_rfl
theorem zv_10 : ofV (.string ⟨#[]⟩) = .v (.string ⟨#[]⟩) := by kernel_rfl
theorem td_11 : tdat Try.prog 11 = some ⟨false, 1, 16, .string ⟨#[]⟩⟩ := by kernel_rfl
theorem zv_11 : ofV (.string ⟨#[]⟩) = .v (.string ⟨#[]⟩) := by kernel_rfl
theorem td_12 : tdat Try.prog 12 = some ⟨false, 1, 8, .int .u64 0⟩ := by kernel_rfl
theorem zv_12 : ofV (.int .u64 0) = .v (.int .u64 0) := by kernel_rfl
theorem td_13 : tdat Try.prog 13 = some ⟨true, 2, 24, .agg #[.string ⟨#[]⟩, .int .u64 0]⟩ := by kernel_rfl
theorem zv_13 : ofV (.agg #[.string ⟨#[]⟩, .int .u64 0]) = .ag [.v (.string ⟨#[]⟩), .v (.int .u64 0)] := by kernel_rfl
theorem tf_13 : tflds Try.prog 13 = some [(0, 1, false), (1, 1, false)] := by kernel_rfl
theorem td_14 : tdat Try.prog 14 = some ⟨true, 2, 24, .agg #[.string ⟨#[]⟩, .int .u64 0]⟩ := by kernel_rfl
theorem zv_14 : ofV (.agg #[.string ⟨#[]⟩, .int .u64 0]) = .ag [.v (.string ⟨#[]⟩), .v (.int .u64 0)] := by kernel_rfl
theorem tf_14 : tflds Try.prog 14 = some [(0, 1, false), (1, 1, false)] := by kernel_rfl
theorem td_15 : tdat Try.prog 15 = some ⟨false, 1, 8, .pointer none⟩ := by kernel_rfl
theorem zv_15 : ofV (.pointer none) = .v (.pointer none) := by kernel_rfl
theorem td_16 : tdat Try.prog 16 = some ⟨false, 1, 8, .pointer none⟩ := by kernel_rfl
theorem zv_16 : ofV (.pointer none) = .v (.pointer none) := by kernel_rfl
theorem td_17 : tdat Try.prog 17 = some ⟨false, 1, 8, .pointer none⟩ := by kernel_rfl
theorem zv_17 : ofV (.pointer none) = .v (.pointer none) := by kernel_rfl
theorem td_18 : tdat Try.prog 18 = some ⟨true, 1, 8, .agg #[.pointer none]⟩ := by kernel_rfl
theorem zv_18 : ofV (.agg #[.pointer none]) = .ag [.v (.pointer none)] := by kernel_rfl
theorem tf_18 : tflds Try.prog 18 = some [(0, 1, false)] := by kernel_rfl
theorem td_19 : tdat Try.prog 19 = some ⟨true, 1, 8, .agg #[.pointer none]⟩ := by kernel_rfl
theorem zv_19 : ofV (.agg #[.pointer none]) = .ag [.v (.pointer none)] := by kernel_rfl
theorem tf_19 : tflds Try.prog 19 = some [(0, 1, false)] := by kernel_rfl
theorem td_20 : tdat Try.prog 20 = some ⟨false, 1, 16, .nilIface⟩ := by kernel_rfl
theorem zv_20 : ofV (.nilIface) = .v .nilIface := by kernel_rfl
theorem td_21 : tdat Try.prog 21 = some ⟨false, 1, 4, .int .i32 0⟩ := by kernel_rfl
theorem zv_21 : ofV (.int .i32 0) = .v (.int .i32 0) := by kernel_rfl
theorem td_22 : tdat Try.prog 22 = some ⟨false, 1, 24, .slice none 0 0⟩ := by kernel_rfl
theorem zv_22 : ofV (.slice none 0 0) = .sl .full [] := by kernel_rfl
theorem tel_22 : tel Try.prog 22 = some 5 := by kernel_rfl
theorem td_23 : tdat Try.prog 23 = some ⟨false, 1, 2, .int .u16 0⟩ := by kernel_rfl
theorem zv_23 : ofV (.int .u16 0) = .v (.int .u16 0) := by kernel_rfl
theorem td_25 : tdat Try.prog 25 = some ⟨false, 1, 24, .slice none 0 0⟩ := by kernel_rfl
theorem zv_25 : ofV (.slice none 0 0) = .sl .full [] := by kernel_rfl
theorem tel_25 : tel Try.prog 25 = some 68 := by kernel_rfl
theorem td_26 : tdat Try.prog 26 = some ⟨false, 1, 24, .slice none 0 0⟩ := by kernel_rfl
theorem zv_26 : ofV (.slice none 0 0) = .sl .full [] := by kernel_rfl
theorem tel_26 : tel Try.prog 26 = some 39 := by kernel_rfl
theorem td_27 : tdat Try.prog 27 = some ⟨true, 2, 48, .agg #[.slice none 0 0, .slice none 0 0]⟩ := by kernel_rfl
theorem zv_27 : ofV (.agg #[.slice none 0 0, .slice none 0 0]) = .ag [.sl .full [], .sl .full []] := by kernel_rfl
theorem tf_27 : tflds Try.prog 27 = some [(0, 1, false), (1, 1, false)] := by kernel_rfl
theorem td_28 : tdat Try.prog 28 = some ⟨true, 2, 48, .agg #[.slice none 0 0, .slice none 0 0]⟩ := by kernel_rfl
theorem zv_28 : ofV (.agg #[.slice none 0 0, .slice none 0 0]) = .ag [.sl .full [], .sl .full []] := by kernel_rfl
theorem tf_28 : tflds Try.prog 28 = some [(0, 1, false), (1, 1, false)] := by kernel_rfl
theorem td_30 : tdat Try.prog 30 = some ⟨false, 1, 24, .slice none 0 0⟩ := by kernel_rfl
theorem zv_30 : ofV (.slice none 0 0) = .sl .full [] := by kernel_rfl
theorem tel_30 : tel Try.prog 30 = some 44 := by kernel_rfl
theorem td_32 : tdat Try.prog 32 = some ⟨false, 1, 24, .slice none 0 0⟩ := by kernel_rfl
theorem zv_32 : ofV (.slice none 0 0) = .sl .full [] := by kernel_rfl
theorem tel_32 : tel Try.prog 32 = some 52 := by kernel_rfl
theorem td_33 : tdat Try.prog 33 = some ⟨false, 1, 24, .slice none 0 0⟩ := by kernel_rfl
theorem zv_33 : ofV (.slice none 0 0) = .sl .full [] := by kernel_rfl
theorem tel_33 : tel Try.prog 33 = some 86 := by kernel_rfl
theorem td_34 : tdat Try.prog 34 = some ⟨true, 2, 48, .agg #[.slice none 0 0, .slice none 0 0]⟩ := by kernel_rfl
theorem zv_34 : ofV (.agg #[.slice none 0 0, .slice none 0 0]) = .ag [.sl .full [], .sl .full []] := by kernel_rfl
theorem tf_34 : tflds Try.prog 34 = some [(0, 1, false), (1, 1, false)] := by kernel_rfl
theorem td_35 : tdat Try.prog 35 = some ⟨true, 2, 48, .agg #[.slice none 0 0, .slice none 0 0]⟩ := by kernel_rfl
theorem zv_35 : ofV (.agg #[.slice none 0 0, .slice none 0 0]) = .ag [.sl .full [], .sl .full []] := by kernel_rfl
theorem tf_35 : tflds Try.prog 35 = some [(0, 1, false), (1, 1, false)] := by kernel_rfl
theorem td_36 : tdat Try.prog 36 = some ⟨true, 2, 16, .agg #[.int .i64 0, .int .i64 0]⟩ := by kernel_rfl
theorem zv_36 : ofV (.agg #[.int .i64 0, .int .i64 0]) = .ag [.v (.int .i64 0), .v (.int .i64 0)] := by kernel_rfl
theorem tf_36 : tflds Try.prog 36 = some [(0, 1, false), (1, 1, false)] := by kernel_rfl
theorem fl_36 : flat1 Try.prog 36 = some [.ski, .ski] := by kernel_rfl
theorem td_37 : tdat Try.prog 37 = some ⟨true, 2, 16, .agg #[.int .i64 0, .int .i64 0]⟩ := by kernel_rfl
theorem zv_37 : ofV (.agg #[.int .i64 0, .int .i64 0]) = .ag [.v (.int .i64 0), .v (.int .i64 0)] := by kernel_rfl
theorem tf_37 : tflds Try.prog 37 = some [(0, 1, false), (1, 1, false)] := by kernel_rfl
theorem fl_37 : flat1 Try.prog 37 = some [.ski, .ski] := by kernel_rfl
theorem td_38 : tdat Try.prog 38 = some ⟨true, 7, 128, .agg #[.string ⟨#[]⟩, .slice none 0 0, .slice none 0 0, .slice none 0 0, .slice none 0 0, .int .i64 0, .int .i64 0]⟩ := by kernel_rfl
theorem zv_38 : ofV (.agg #[.string ⟨#[]⟩, .slice none 0 0, .slice none 0 0, .slice none 0 0, .slice none 0 0, .int .i64 0, .int .i64 0]) = .ag [.v (.string ⟨#[]⟩), .sl .full [], .sl .full [], .sl .full [], .sl .full [], .v (.int .i64 0), .v (.int .i64 0)] := by kernel_rfl
theorem tf_38 : tflds Try.prog 38 = some [(0, 1, false), (1, 1, false), (2, 1, false), (3, 2, true), (5, 2, true)] := by kernel_rfl
theorem td_39 : tdat Try.prog 39 = some ⟨true, 7, 128, .agg #[.string ⟨#[]⟩, .slice none 0 0, .slice none 0 0, .slice none 0 0, .slice none 0 0, .int .i64 0, .int .i64 0]⟩ := by kernel_rfl
theorem zv_39 : ofV (.agg #[.string ⟨#[]⟩, .slice none 0 0, .slice none 0 0, .slice none 0 0, .slice none 0 0, .int .i64 0, .int .i64 0]) = .ag [.v (.string ⟨#[]⟩), .sl .full [], .sl .full [], .sl .full [], .sl .full [], .v (.int .i64 0), .v (.int .i64 0)] := by kernel_rfl
theorem tf_39 : tflds Try.prog 39 = some [(0, 1, false), (1, 1, false), (2, 1, false), (3, 2, true), (5, 2, true)] := by kernel_rfl
theorem td_41 : tdat Try.prog 41 = some ⟨false, 1, 24, .slice none 0 0⟩ := by kernel_rfl
theorem zv_41 : ofV (.slice none 0 0) = .sl .full [] := by kernel_rfl
theorem tel_41 : tel Try.prog 41 = some 9 := by kernel_rfl
theorem td_43 : tdat Try.prog 43 = some ⟨true, 8, 88, .agg #[.int .u8 0, .int .u8 0, .int .i32 0, .string ⟨#[]⟩, .slice none 0 0, .slice none 0 0, .int .i64 0, .int .i64 0]⟩ := by kernel_rfl
theorem zv_43 : ofV (.agg #[.int .u8 0, .int .u8 0, .int .i32 0, .string ⟨#[]⟩, .slice none 0 0, .slice none 0 0, .int .i64 0, .int .i64 0]) = .ag [.v (.int .u8 0), .v (.int .u8 0), .v (.int .i32 0), .v (.string ⟨#[]⟩), .sl .full [], .sl .full [], .v (.int .i64 0), .v (.int .i64 0)] := by kernel_rfl
theorem tf_43 : tflds Try.prog 43 = some [(0, 1, false), (1, 1, false), (2, 1, false), (3, 1, false), (4, 1, false), (5, 1, false), (6, 2, true)] := by kernel_rfl
theorem td_44 : tdat Try.prog 44 = some ⟨true, 8, 88, .agg #[.int .u8 0, .int .u8 0, .int .i32 0, .string ⟨#[]⟩, .slice none 0 0, .slice none 0 0, .int .i64 0, .int .i64 0]⟩ := by kernel_rfl
theorem zv_44 : ofV (.agg #[.int .u8 0, .int .u8 0, .int .i32 0, .string ⟨#[]⟩, .slice none 0 0, .slice none 0 0, .int .i64 0, .int .i64 0]) = .ag [.v (.int .u8 0), .v (.int .u8 0), .v (.int .i32 0), .v (.string ⟨#[]⟩), .sl .full [], .sl .full [], .v (.int .i64 0), .v (.int .i64 0)] := by kernel_rfl
theorem tf_44 : tflds Try.prog 44 = some [(0, 1, false), (1, 1, false), (2, 1, false), (3, 1, false), (4, 1, false), (5, 1, false), (6, 2, true)] := by kernel_rfl
theorem td_48 : tdat Try.prog 48 = some ⟨true, 2, 24, .agg #[.int .u8 0, .string ⟨#[]⟩]⟩ := by kernel_rfl
theorem zv_48 : ofV (.agg #[.int .u8 0, .string ⟨#[]⟩]) = .ag [.v (.int .u8 0), .v (.string ⟨#[]⟩)] := by kernel_rfl
theorem tf_48 : tflds Try.prog 48 = some [(0, 1, false), (1, 1, false)] := by kernel_rfl
theorem fl_48 : flat1 Try.prog 48 = some [.ski, .sks] := by kernel_rfl
theorem td_49 : tdat Try.prog 49 = some ⟨true, 2, 24, .agg #[.int .u8 0, .string ⟨#[]⟩]⟩ := by kernel_rfl
theorem zv_49 : ofV (.agg #[.int .u8 0, .string ⟨#[]⟩]) = .ag [.v (.int .u8 0), .v (.string ⟨#[]⟩)] := by kernel_rfl
theorem tf_49 : tflds Try.prog 49 = some [(0, 1, false), (1, 1, false)] := by kernel_rfl
theorem fl_49 : flat1 Try.prog 49 = some [.ski, .sks] := by kernel_rfl
theorem td_50 : tdat Try.prog 50 = some ⟨false, 1, 24, .slice none 0 0⟩ := by kernel_rfl
theorem zv_50 : ofV (.slice none 0 0) = .sl .full [] := by kernel_rfl
theorem tel_50 : tel Try.prog 50 = some 63 := by kernel_rfl
theorem td_51 : tdat Try.prog 51 = some ⟨true, 15, 176, .agg #[.string ⟨#[]⟩, .int .u8 0, .string ⟨#[]⟩, .slice none 0 0, .bool false, .int .u8 0, .int .u8 0, .int .i32 0, .string ⟨#[]⟩, .slice none 0 0, .slice none 0 0, .int .i64 0, .int .i64 0, .int .i64 0, .int .i64 0]⟩ := by kernel_rfl
theorem zv_51 : ofV (.agg #[.string ⟨#[]⟩, .int .u8 0, .string ⟨#[]⟩, .slice none 0 0, .bool false, .int .u8 0, .int .u8 0, .int .i32 0, .string ⟨#[]⟩, .slice none 0 0, .slice none 0 0, .int .i64 0, .int .i64 0, .int .i64 0, .int .i64 0]) = .ag [.v (.string ⟨#[]⟩), .v (.int .u8 0), .v (.string ⟨#[]⟩), .sl .full [], .v (.bool false), .v (.int .u8 0), .v (.int .u8 0), .v (.int .i32 0), .v (.string ⟨#[]⟩), .sl .full [], .sl .full [], .v (.int .i64 0), .v (.int .i64 0), .v (.int .i64 0), .v (.int .i64 0)] := by kernel_rfl
theorem tf_51 : tflds Try.prog 51 = some [(0, 1, false), (1, 2, true), (3, 1, false), (4, 1, false), (5, 8, true), (13, 2, true)] := by kernel_rfl
theorem td_52 : tdat Try.prog 52 = some ⟨true, 15, 176, .agg #[.string ⟨#[]⟩, .int .u8 0, .string ⟨#[]⟩, .slice none 0 0, .bool false, .int .u8 0, .int .u8 0, .int .i32 0, .string ⟨#[]⟩, .slice none 0 0, .slice none 0 0, .int .i64 0, .int .i64 0, .int .i64 0, .int .i64 0]⟩ := by kernel_rfl
theorem zv_52 : ofV (.agg #[.string ⟨#[]⟩, .int .u8 0, .string ⟨#[]⟩, .slice none 0 0, .bool false, .int .u8 0, .int .u8 0, .int .i32 0, .string ⟨#[]⟩, .slice none 0 0, .slice none 0 0, .int .i64 0, .int .i64 0, .int .i64 0, .int .i64 0]) = .ag [.v (.string ⟨#[]⟩), .v (.int .u8 0), .v (.string ⟨#[]⟩), .sl .full [], .v (.bool false), .v (.int .u8 0), .v (.int .u8 0), .v (.int .i32 0), .v (.string ⟨#[]⟩), .sl .full [], .sl .full [], .v (.int .i64 0), .v (.int .i64 0), .v (.int .i64 0), .v (.int .i64 0)] := by kernel_rfl
theorem tf_52 : tflds Try.prog 52 = some [(0, 1, false), (1, 2, true), (3, 1, false), (4, 1, false), (5, 8, true), (13, 2, true)] := by kernel_rfl
theorem td_62 : tdat Try.prog 62 = some ⟨true, 2, 32, .agg #[.string ⟨#[]⟩, .string ⟨#[]⟩]⟩ := by kernel_rfl
theorem zv_62 : ofV (.agg #[.string ⟨#[]⟩, .string ⟨#[]⟩]) = .ag [.v (.string ⟨#[]⟩), .v (.string ⟨#[]⟩)] := by kernel_rfl
theorem tf_62 : tflds Try.prog 62 = some [(0, 1, false), (1, 1, false)] := by kernel_rfl
theorem fl_62 : flat1 Try.prog 62 = some [.sks, .sks] := by kernel_rfl
theorem td_63 : tdat Try.prog 63 = some ⟨true, 2, 32, .agg #[.string ⟨#[]⟩, .string ⟨#[]⟩]⟩ := by kernel_rfl
theorem zv_63 : ofV (.agg #[.string ⟨#[]⟩, .string ⟨#[]⟩]) = .ag [.v (.string ⟨#[]⟩), .v (.string ⟨#[]⟩)] := by kernel_rfl
theorem tf_63 : tflds Try.prog 63 = some [(0, 1, false), (1, 1, false)] := by kernel_rfl
theorem fl_63 : flat1 Try.prog 63 = some [.sks, .sks] := by kernel_rfl
theorem td_66 : tdat Try.prog 66 = some ⟨false, 1, 24, .slice none 0 0⟩ := by kernel_rfl
theorem zv_66 : ofV (.slice none 0 0) = .sl .full [] := by kernel_rfl
theorem tel_66 : tel Try.prog 66 = some 41 := by kernel_rfl
theorem td_67 : tdat Try.prog 67 = some ⟨true, 4, 56, .agg #[.string ⟨#[]⟩, .slice none 0 0, .int .i64 0, .int .i64 0]⟩ := by kernel_rfl
theorem zv_67 : ofV (.agg #[.string ⟨#[]⟩, .slice none 0 0, .int .i64 0, .int .i64 0]) = .ag [.v (.string ⟨#[]⟩), .sl .full [], .v (.int .i64 0), .v (.int .i64 0)] := by kernel_rfl
theorem tf_67 : tflds Try.prog 67 = some [(0, 1, false), (1, 1, false), (2, 2, true)] := by kernel_rfl
theorem td_68 : tdat Try.prog 68 = some ⟨true, 4, 56, .agg #[.string ⟨#[]⟩, .slice none 0 0, .int .i64 0, .int .i64 0]⟩ := by kernel_rfl
theorem zv_68 : ofV (.agg #[.string ⟨#[]⟩, .slice none 0 0, .int .i64 0, .int .i64 0]) = .ag [.v (.string ⟨#[]⟩), .sl .full [], .v (.int .i64 0), .v (.int .i64 0)] := by kernel_rfl
theorem tf_68 : tflds Try.prog 68 = some [(0, 1, false), (1, 1, false), (2, 2, true)] := by kernel_rfl
theorem td_84 : tdat Try.prog 84 = some ⟨false, 1, 24, .slice none 0 0⟩ := by kernel_rfl
theorem zv_84 : ofV (.slice none 0 0) = .sl .full [] := by kernel_rfl
theorem tel_84 : tel Try.prog 84 = some 103 := by kernel_rfl
theorem td_85 : tdat Try.prog 85 = some ⟨true, 16, 208, .agg #[.int .u8 0, .slice none 0 0, .string ⟨#[]⟩, .slice none 0 0, .bool false, .int .u8 0, .int .u8 0, .int .i32 0, .string ⟨#[]⟩, .slice none 0 0, .slice none 0 0, .int .i64 0, .int .i64 0, .slice none 0 0, .int .i64 0, .int .i64 0]⟩ := by kernel_rfl
theorem zv_85 : ofV (.agg #[.int .u8 0, .slice none 0 0, .string ⟨#[]⟩, .slice none 0 0, .bool false, .int .u8 0, .int .u8 0, .int .i32 0, .string ⟨#[]⟩, .slice none 0 0, .slice none 0 0, .int .i64 0, .int .i64 0, .slice none 0 0, .int .i64 0, .int .i64 0]) = .ag [.v (.int .u8 0), .sl .full [], .v (.string ⟨#[]⟩), .sl .full [], .v (.bool false), .v (.int .u8 0), .v (.int .u8 0), .v (.int .i32 0), .v (.string ⟨#[]⟩), .sl .full [], .sl .full [], .v (.int .i64 0), .v (.int .i64 0), .sl .full [], .v (.int .i64 0), .v (.int .i64 0)] := by kernel_rfl
theorem tf_85 : tflds Try.prog 85 = some [(0, 1, false), (1, 1, false), (2, 1, false), (3, 1, false), (4, 1, false), (5, 8, true), (13, 1, false), (14, 2, true)] := by kernel_rfl
theorem td_86 : tdat Try.prog 86 = some ⟨true, 16, 208, .agg #[.int .u8 0, .slice none 0 0, .string ⟨#[]⟩, .slice none 0 0, .bool false, .int .u8 0, .int .u8 0, .int .i32 0, .string ⟨#[]⟩, .slice none 0 0, .slice none 0 0, .int .i64 0, .int .i64 0, .slice none 0 0, .int .i64 0, .int .i64 0]⟩ := by kernel_rfl
theorem zv_86 : ofV (.agg #[.int .u8 0, .slice none 0 0, .string ⟨#[]⟩, .slice none 0 0, .bool false, .int .u8 0, .int .u8 0, .int .i32 0, .string ⟨#[]⟩, .slice none 0 0, .slice none 0 0, .int .i64 0, .int .i64 0, .slice none 0 0, .int .i64 0, .int .i64 0]) = .ag [.v (.int .u8 0), .sl .full [], .v (.string ⟨#[]⟩), .sl .full [], .v (.bool false), .v (.int .u8 0), .v (.int .u8 0), .v (.int .i32 0), .v (.string ⟨#[]⟩), .sl .full [], .sl .full [], .v (.int .i64 0), .v (.int .i64 0), .sl .full [], .v (.int .i64 0), .v (.int .i64 0)] := by kernel_rfl
theorem tf_86 : tflds Try.prog 86 = some [(0, 1, false), (1, 1, false), (2, 1, false), (3, 1, false), (4, 1, false), (5, 8, true), (13, 1, false), (14, 2, true)] := by kernel_rfl
theorem td_92 : tdat Try.prog 92 = some ⟨false, 1, 8, .pointer none⟩ := by kernel_rfl
theorem zv_92 : ofV (.pointer none) = .v (.pointer none) := by kernel_rfl
theorem td_93 : tdat Try.prog 93 = some ⟨true, 2, 32, .agg #[.slice none 0 0, .int .i64 0]⟩ := by kernel_rfl
theorem zv_93 : ofV (.agg #[.slice none 0 0, .int .i64 0]) = .ag [.sl .full [], .v (.int .i64 0)] := by kernel_rfl
theorem tf_93 : tflds Try.prog 93 = some [(0, 1, false), (1, 1, false)] := by kernel_rfl
theorem td_94 : tdat Try.prog 94 = some ⟨true, 2, 32, .agg #[.slice none 0 0, .int .i64 0]⟩ := by kernel_rfl
theorem zv_94 : ofV (.agg #[.slice none 0 0, .int .i64 0]) = .ag [.sl .full [], .v (.int .i64 0)] := by kernel_rfl
theorem tf_94 : tflds Try.prog 94 = some [(0, 1, false), (1, 1, false)] := by kernel_rfl
theorem td_96 : tdat Try.prog 96 = some ⟨false, 1, 8, .pointer none⟩ := by kernel_rfl
theorem zv_96 : ofV (.pointer none) = .v (.pointer none) := by kernel_rfl
theorem td_97 : tdat Try.prog 97 = some ⟨true, 5, 40, .agg #[.pointer none, .int .i64 0, .int .i64 0, .int .i64 0, .bool false]⟩ := by kernel_rfl
theorem zv_97 : ofV (.agg #[.pointer none, .int .i64 0, .int .i64 0, .int .i64 0, .bool false]) = .ag [.v (.pointer none), .v (.int .i64 0), .v (.int .i64 0), .v (.int .i64 0), .v (.bool false)] := by kernel_rfl
theorem tf_97 : tflds Try.prog 97 = some [(0, 1, false), (1, 1, false), (2, 1, false), (3, 1, false), (4, 1, false)] := by kernel_rfl
theorem td_98 : tdat Try.prog 98 = some ⟨true, 5, 40, .agg #[.pointer none, .int .i64 0, .int .i64 0, .int .i64 0, .bool false]⟩ := by kernel_rfl
theorem zv_98 : ofV (.agg #[.pointer none, .int .i64 0, .int .i64 0, .int .i64 0, .bool false]) = .ag [.v (.pointer none), .v (.int .i64 0), .v (.int .i64 0), .v (.int .i64 0), .v (.bool false)] := by kernel_rfl
theorem tf_98 : tflds Try.prog 98 = some [(0, 1, false), (1, 1, false), (2, 1, false), (3, 1, false), (4, 1, false)] := by kernel_rfl
theorem td_101 : tdat Try.prog 101 = some ⟨false, 1, 24, .slice none 0 0⟩ := by kernel_rfl
theorem zv_101 : ofV (.slice none 0 0) = .sl .full [] := by kernel_rfl
theorem tel_101 : tel Try.prog 101 = some 105 := by kernel_rfl
theorem td_102 : tdat Try.prog 102 = some ⟨true, 7, 128, .agg #[.string ⟨#[]⟩, .slice none 0 0, .slice none 0 0, .slice none 0 0, .slice none 0 0, .int .i64 0, .int .i64 0]⟩ := by kernel_rfl
theorem zv_102 : ofV (.agg #[.string ⟨#[]⟩, .slice none 0 0, .slice none 0 0, .slice none 0 0, .slice none 0 0, .int .i64 0, .int .i64 0]) = .ag [.v (.string ⟨#[]⟩), .sl .full [], .sl .full [], .sl .full [], .sl .full [], .v (.int .i64 0), .v (.int .i64 0)] := by kernel_rfl
theorem tf_102 : tflds Try.prog 102 = some [(0, 1, false), (1, 2, true), (3, 1, false), (4, 1, false), (5, 2, true)] := by kernel_rfl
theorem td_103 : tdat Try.prog 103 = some ⟨true, 7, 128, .agg #[.string ⟨#[]⟩, .slice none 0 0, .slice none 0 0, .slice none 0 0, .slice none 0 0, .int .i64 0, .int .i64 0]⟩ := by kernel_rfl
theorem zv_103 : ofV (.agg #[.string ⟨#[]⟩, .slice none 0 0, .slice none 0 0, .slice none 0 0, .slice none 0 0, .int .i64 0, .int .i64 0]) = .ag [.v (.string ⟨#[]⟩), .sl .full [], .sl .full [], .sl .full [], .sl .full [], .v (.int .i64 0), .v (.int .i64 0)] := by kernel_rfl
theorem tf_103 : tflds Try.prog 103 = some [(0, 1, false), (1, 2, true), (3, 1, false), (4, 1, false), (5, 2, true)] := by kernel_rfl
theorem td_104 : tdat Try.prog 104 = some ⟨true, 12, 128, .agg #[.int .u8 0, .int .u8 0, .int .i32 0, .string ⟨#[]⟩, .slice none 0 0, .slice none 0 0, .int .i64 0, .int .i64 0, .string ⟨#[]⟩, .bool false, .int .i64 0, .int .i64 0]⟩ := by kernel_rfl
theorem zv_104 : ofV (.agg #[.int .u8 0, .int .u8 0, .int .i32 0, .string ⟨#[]⟩, .slice none 0 0, .slice none 0 0, .int .i64 0, .int .i64 0, .string ⟨#[]⟩, .bool false, .int .i64 0, .int .i64 0]) = .ag [.v (.int .u8 0), .v (.int .u8 0), .v (.int .i32 0), .v (.string ⟨#[]⟩), .sl .full [], .sl .full [], .v (.int .i64 0), .v (.int .i64 0), .v (.string ⟨#[]⟩), .v (.bool false), .v (.int .i64 0), .v (.int .i64 0)] := by kernel_rfl
theorem tf_104 : tflds Try.prog 104 = some [(0, 8, true), (8, 1, false), (9, 1, false), (10, 2, true)] := by kernel_rfl
theorem td_105 : tdat Try.prog 105 = some ⟨true, 12, 128, .agg #[.int .u8 0, .int .u8 0, .int .i32 0, .string ⟨#[]⟩, .slice none 0 0, .slice none 0 0, .int .i64 0, .int .i64 0, .string ⟨#[]⟩, .bool false, .int .i64 0, .int .i64 0]⟩ := by kernel_rfl
theorem zv_105 : ofV (.agg #[.int .u8 0, .int .u8 0, .int .i32 0, .string ⟨#[]⟩, .slice none 0 0, .slice none 0 0, .int .i64 0, .int .i64 0, .string ⟨#[]⟩, .bool false, .int .i64 0, .int .i64 0]) = .ag [.v (.int .u8 0), .v (.int .u8 0), .v (.int .i32 0), .v (.string ⟨#[]⟩), .sl .full [], .sl .full [], .v (.int .i64 0), .v (.int .i64 0), .v (.string ⟨#[]⟩), .v (.bool false), .v (.int .i64 0), .v (.int .i64 0)] := by kernel_rfl
theorem tf_105 : tflds Try.prog 105 = some [(0, 8, true), (8, 1, false), (9, 1, false), (10, 2, true)] := by kernel_rfl
theorem td_118 : tdat Try.prog 118 = some ⟨false, 1, 8, .pointer none⟩ := by kernel_rfl
theorem zv_118 : ofV (.pointer none) = .v (.pointer none) := by kernel_rfl
theorem td_119 : tdat Try.prog 119 = some ⟨true, 1, 8, .agg #[.int .i64 0]⟩ := by kernel_rfl
theorem zv_119 : ofV (.agg #[.int .i64 0]) = .ag [.v (.int .i64 0)] := by kernel_rfl
theorem tf_119 : tflds Try.prog 119 = some [(0, 1, false)] := by kernel_rfl
theorem fl_119 : flat1 Try.prog 119 = some [.ski] := by kernel_rfl
theorem td_120 : tdat Try.prog 120 = some ⟨true, 1, 8, .agg #[.int .i64 0]⟩ := by kernel_rfl
theorem zv_120 : ofV (.agg #[.int .i64 0]) = .ag [.v (.int .i64 0)] := by kernel_rfl
theorem tf_120 : tflds Try.prog 120 = some [(0, 1, false)] := by kernel_rfl
theorem fl_120 : flat1 Try.prog 120 = some [.ski] := by kernel_rfl
theorem td_123 : tdat Try.prog 123 = some ⟨false, 1, 8, .pointer none⟩ := by kernel_rfl
theorem zv_123 : ofV (.pointer none) = .v (.pointer none) := by kernel_rfl
theorem td_124 : tdat Try.prog 124 = some ⟨true, 3, 24, .agg #[.int .i64 0, .int .i64 0, .int .i64 0]⟩ := by kernel_rfl
theorem zv_124 : ofV (.agg #[.int .i64 0, .int .i64 0, .int .i64 0]) = .ag [.v (.int .i64 0), .v (.int .i64 0), .v (.int .i64 0)] := by kernel_rfl
theorem tf_124 : tflds Try.prog 124 = some [(0, 1, false), (1, 1, false), (2, 1, false)] := by kernel_rfl
theorem fl_124 : flat1 Try.prog 124 = some [.ski, .ski, .ski] := by kernel_rfl
theorem td_125 : tdat Try.prog 125 = some ⟨true, 3, 24, .agg #[.int .i64 0, .int .i64 0, .int .i64 0]⟩ := by kernel_rfl
theorem zv_125 : ofV (.agg #[.int .i64 0, .int .i64 0, .int .i64 0]) = .ag [.v (.int .i64 0), .v (.int .i64 0), .v (.int .i64 0)] := by kernel_rfl
theorem tf_125 : tflds Try.prog 125 = some [(0, 1, false), (1, 1, false), (2, 1, false)] := by kernel_rfl
theorem fl_125 : flat1 Try.prog 125 = some [.ski, .ski, .ski] := by kernel_rfl
theorem td_143 : tdat Try.prog 143 = some ⟨true, 3, 72, .agg #[.slice none 0 0, .slice none 0 0, .slice none 0 0]⟩ := by kernel_rfl
theorem zv_143 : ofV (.agg #[.slice none 0 0, .slice none 0 0, .slice none 0 0]) = .ag [.sl .full [], .sl .full [], .sl .full []] := by kernel_rfl
theorem tf_143 : tflds Try.prog 143 = some [(0, 1, false), (1, 1, false), (2, 1, false)] := by kernel_rfl
theorem td_144 : tdat Try.prog 144 = some ⟨true, 3, 72, .agg #[.slice none 0 0, .slice none 0 0, .slice none 0 0]⟩ := by kernel_rfl
theorem zv_144 : ofV (.agg #[.slice none 0 0, .slice none 0 0, .slice none 0 0]) = .ag [.sl .full [], .sl .full [], .sl .full []] := by kernel_rfl
theorem tf_144 : tflds Try.prog 144 = some [(0, 1, false), (1, 1, false), (2, 1, false)] := by kernel_rfl
theorem td_148 : tdat Try.prog 148 = some ⟨false, 1, 24, .slice none 0 0⟩ := by kernel_rfl
theorem zv_148 : ofV (.slice none 0 0) = .sl .full [] := by kernel_rfl
theorem tel_148 : tel Try.prog 148 = some 101 := by kernel_rfl
theorem td_154 : tdat Try.prog 154 = some ⟨false, 1, 24, .slice none 0 0⟩ := by kernel_rfl
theorem zv_154 : ofV (.slice none 0 0) = .sl .full [] := by kernel_rfl
theorem tel_154 : tel Try.prog 154 = some 21 := by kernel_rfl
theorem td_168 : tdat Try.prog 168 = some ⟨true, 4, 40, .agg #[.pointer none, .pointer none, .pointer none, .string ⟨#[]⟩]⟩ := by kernel_rfl
theorem zv_168 : ofV (.agg #[.pointer none, .pointer none, .pointer none, .string ⟨#[]⟩]) = .ag [.v (.pointer none), .v (.pointer none), .v (.pointer none), .v (.string ⟨#[]⟩)] := by kernel_rfl
theorem tf_168 : tflds Try.prog 168 = some [(0, 1, false), (1, 1, false), (2, 1, false), (3, 1, false)] := by kernel_rfl
theorem td_169 : tdat Try.prog 169 = some ⟨true, 4, 40, .agg #[.pointer none, .pointer none, .pointer none, .string ⟨#[]⟩]⟩ := by kernel_rfl
theorem zv_169 : ofV (.agg #[.pointer none, .pointer none, .pointer none, .string ⟨#[]⟩]) = .ag [.v (.pointer none), .v (.pointer none), .v (.pointer none), .v (.string ⟨#[]⟩)] := by kernel_rfl
theorem tf_169 : tflds Try.prog 169 = some [(0, 1, false), (1, 1, false), (2, 1, false), (3, 1, false)] := by kernel_rfl
theorem td_170 : tdat Try.prog 170 = some ⟨true, 0, 0, .agg #[]⟩ := by kernel_rfl
theorem zv_170 : ofV (.agg #[]) = .ag [] := by kernel_rfl
theorem td_171 : tdat Try.prog 171 = some ⟨true, 0, 0, .agg #[]⟩ := by kernel_rfl
theorem zv_171 : ofV (.agg #[]) = .ag [] := by kernel_rfl
theorem tf_171 : tflds Try.prog 171 = some [(0, 0, true)] := by kernel_rfl
theorem td_172 : tdat Try.prog 172 = some ⟨true, 0, 0, .agg #[]⟩ := by kernel_rfl
theorem zv_172 : ofV (.agg #[]) = .ag [] := by kernel_rfl
theorem tf_172 : tflds Try.prog 172 = some [(0, 0, true)] := by kernel_rfl
theorem td_174 : tdat Try.prog 174 = some ⟨false, 1, 4, .int .u32 0⟩ := by kernel_rfl
theorem zv_174 : ofV (.int .u32 0) = .v (.int .u32 0) := by kernel_rfl
theorem td_175 : tdat Try.prog 175 = some ⟨false, 1, 1, .int .u8 0⟩ := by kernel_rfl
theorem zv_175 : ofV (.int .u8 0) = .v (.int .u8 0) := by kernel_rfl
theorem td_176 : tdat Try.prog 176 = some ⟨false, 1, 1, .int .u8 0⟩ := by kernel_rfl
theorem zv_176 : ofV (.int .u8 0) = .v (.int .u8 0) := by kernel_rfl
theorem td_178 : tdat Try.prog 178 = some ⟨false, 1, 8, .pointer none⟩ := by kernel_rfl
theorem zv_178 : ofV (.pointer none) = .v (.pointer none) := by kernel_rfl
theorem td_179 : tdat Try.prog 179 = some ⟨false, 1, 4, .int .i32 0⟩ := by kernel_rfl
theorem zv_179 : ofV (.int .i32 0) = .v (.int .i32 0) := by kernel_rfl
theorem td_180 : tdat Try.prog 180 = some ⟨false, 1, 4, .int .i32 0⟩ := by kernel_rfl
theorem zv_180 : ofV (.int .i32 0) = .v (.int .i32 0) := by kernel_rfl
theorem td_181 : tdat Try.prog 181 = some ⟨true, 11, 48, .agg #[.int .u64 0, .int .u64 0, .int .u32 0, .int .u8 0, .int .u8 0, .int .u8 0, .int .u8 0, .nilFunc, .pointer none, .int .i32 0, .int .i32 0]⟩ := by kernel_rfl
theorem zv_181 : ofV (.agg #[.int .u64 0, .int .u64 0, .int .u32 0, .int .u8 0, .int .u8 0, .int .u8 0, .int .u8 0, .nilFunc, .pointer none, .int .i32 0, .int .i32 0]) = .ag [.v (.int .u64 0), .v (.int .u64 0), .v (.int .u32 0), .v (.int .u8 0), .v (.int .u8 0), .v (.int .u8 0), .v (.int .u8 0), .v .nilFunc, .v (.pointer none), .v (.int .i32 0), .v (.int .i32 0)] := by kernel_rfl
theorem tf_181 : tflds Try.prog 181 = some [(0, 1, false), (1, 1, false), (2, 1, false), (3, 1, false), (4, 1, false), (5, 1, false), (6, 1, false), (7, 1, false), (8, 1, false), (9, 1, false), (10, 1, false)] := by kernel_rfl
theorem td_182 : tdat Try.prog 182 = some ⟨true, 11, 48, .agg #[.int .u64 0, .int .u64 0, .int .u32 0, .int .u8 0, .int .u8 0, .int .u8 0, .int .u8 0, .nilFunc, .pointer none, .int .i32 0, .int .i32 0]⟩ := by kernel_rfl
theorem zv_182 : ofV (.agg #[.int .u64 0, .int .u64 0, .int .u32 0, .int .u8 0, .int .u8 0, .int .u8 0, .int .u8 0, .nilFunc, .pointer none, .int .i32 0, .int .i32 0]) = .ag [.v (.int .u64 0), .v (.int .u64 0), .v (.int .u32 0), .v (.int .u8 0), .v (.int .u8 0), .v (.int .u8 0), .v (.int .u8 0), .v .nilFunc, .v (.pointer none), .v (.int .i32 0), .v (.int .i32 0)] := by kernel_rfl
theorem tf_182 : tflds Try.prog 182 = some [(0, 1, false), (1, 1, false), (2, 1, false), (3, 1, false), (4, 1, false), (5, 1, false), (6, 1, false), (7, 1, false), (8, 1, false), (9, 1, false), (10, 1, false)] := by kernel_rfl
theorem td_183 : tdat Try.prog 183 = some ⟨false, 1, 8, .pointer none⟩ := by kernel_rfl
theorem zv_183 : ofV (.pointer none) = .v (.pointer none) := by kernel_rfl
end Go.Proofs.Ytibhhoknipdlpaa
