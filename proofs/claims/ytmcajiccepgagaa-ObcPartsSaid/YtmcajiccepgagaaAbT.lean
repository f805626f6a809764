/-
  Closed facts on the types of this seat.
-/
import Derived.Test.YtmcajiccepgagaaRows
import Derived.Test.YtmcajiccepgagaaAbFn
import Derived.KernelRfl
namespace Go.Proofs.Ytmcajiccepgagaa
open Go Go.RowKit
theorem ok_mix : Try.prog.follows .mixedOrders = true := by kernel_rfl
theorem nk_1 : nkT Try.prog 1 = some .nkf := by kernel_rfl
theorem td_2 : tdat Try.prog 2 = some ⟨false, 1, 8, .int .i64 0⟩ := by kernel_rfl
theorem zv_2 : ofV (.int .i64 0) = .v (.int .i64 0) := by kernel_rfl
theorem td_3 : tdat Try.prog 3 = some ⟨false, 1, 8, .int .i64 0⟩ := by kernel_rfl
theorem zv_3 : ofV (.int .i64 0) = .v (.int .i64 0) := by kernel_rfl
theorem td_4 : tdat Try.prog 4 = some ⟨false, 1, 1, .bool false⟩ := by kernel_rfl
theorem zv_4 : ofV (.bool false) = .v (.bool false) := by kernel_rfl
theorem td_5 : tdat Try.prog 5 = some ⟨false, 1, 1, .int .u8 0⟩ := by kernel_rfl
theorem zv_5 : ofV (.int .u8 0) = .v (.int .u8 0) := by kernel_rfl
theorem td_6 : tdat Try.prog 6 = some ⟨false, 1, 1, .int .u8 0⟩ := by kernel_rfl
theorem zv_6 : ofV (.int .u8 0) = .v (.int .u8 0) := by kernel_rfl
theorem td_7 : tdat Try.prog 7 = some ⟨true, 4, 24, .agg #[.int .i64 0, .int .i64 0, .bool false, .int .u8 0]⟩ := by kernel_rfl
theorem zv_7 : ofV (.agg #[.int .i64 0, .int .i64 0, .bool false, .int .u8 0]) = .ag [.v (.int .i64 0), .v (.int .i64 0), .v (.bool false), .v (.int .u8 0)] := by kernel_rfl
theorem tf_7 : tflds Try.prog 7 = some [(0, 1, false), (1, 1, false), (2, 1, false), (3, 1, false)] := by kernel_rfl
theorem td_8 : tdat Try.prog 8 = some ⟨true, 4, 24, .agg #[.int .i64 0, .int .i64 0, .bool false, .int .u8 0]⟩ := by kernel_rfl
theorem zv_8 : ofV (.agg #[.int .i64 0, .int .i64 0, .bool false, .int .u8 0]) = .ag [.v (.int .i64 0), .v (.int .i64 0), .v (.bool false), .v (.int .u8 0)] := by kernel_rfl
theorem tf_8 : tflds Try.prog 8 = some [(0, 1, false), (1, 1, false), (2, 1, false), (3, 1, false)] := by kernel_rfl
theorem td_9 : tdat Try.prog 9 = some ⟨false, 1, 16, .string ⟨#[]⟩⟩ := by kernel_rfl
theorem zv_9 : ofV (.string ⟨#[]⟩) = .v (.string ⟨#[]⟩) := by kernel_rfl
theorem td_10 : tdat Try.prog 10 = some ⟨false, 1, 16, .string ⟨#[]⟩⟩ := by kernel_rfl
theorem zv_10 : ofV (.string ⟨#[]⟩) = .v (.string ⟨#[]⟩) := by kernel_rfl
theorem td_11 : tdat Try.prog 11 = some ⟨false, 1, 16, .string ⟨#[]⟩⟩ := by kernel_rfl
theorem zv_11 : ofV (.string ⟨#[]⟩) = .v (.string ⟨#[]⟩) := by kernel_rfl
theorem td_12 : tdat Try.prog 12 = some ⟨false, 1, 8, .int .u64 0⟩ := by kernel_rfl
theorem zv_12 : ofV (.int .u64 0) = .v (.int .u64 0) := by kernel_rfl
theorem td_13 : tdat Try.prog 13 = some ⟨true, 2, 24, .agg #[.string ⟨#[]⟩, .int .u64 0]⟩ := by kernel_rfl
theorem zv_13 : ofV (.agg #[.string ⟨#[]⟩, .int .u64 0]) = .ag [.v (.string ⟨#[]⟩), .v (.int .u64 0)] := by kernel_rfl
theorem tf_13 : tflds Try.prog 13 = some [(0, 1, false), (1, 1, false)] := by kernel_rfl
theorem td_14 : tdat Try.prog 14 = some ⟨true, 2, 24, .agg #[.string ⟨#[]⟩, .int .u64 0]⟩ := by kernel_rfl
theorem zv_14 : ofV (.agg #[.string ⟨#[]⟩, .int .u64 0]) = .ag [.v (.string ⟨#[]⟩), .v (.int .u64 0)] := by kernel_rfl
theorem tf_14 : tflds Try.prog 14 = some [(0, 1, false), (1, 1, false)] := by kernel_rfl
theorem nk_15 : nkT Try.prog 15 = some .nkp := by kernel_rfl
theorem td_15 : tdat Try.prog 15 = some ⟨false, 1, 8, .pointer none⟩ := by kernel_rfl
theorem zv_15 : ofV (.pointer none) = .v (.pointer none) := by kernel_rfl
theorem nk_16 : nkT Try.prog 16 = some .nkp := by kernel_rfl
theorem td_16 : tdat Try.prog 16 = some ⟨false, 1, 8, .pointer none⟩ := by kernel_rfl
theorem zv_16 : ofV (.pointer none) = .v (.pointer none) := by kernel_rfl
theorem nk_17 : nkT Try.prog 17 = some .nkp := by kernel_rfl
theorem td_17 : tdat Try.prog 17 = some ⟨false, 1, 8, .pointer none⟩ := by kernel_rfl
theorem zv_17 : ofV (.pointer none) = .v (.pointer none) := by kernel_rfl
theorem td_18 : tdat Try.prog 18 = some ⟨true, 1, 8, .agg #[.pointer none]⟩ := by kernel_rfl
theorem zv_18 : ofV (.agg #[.pointer none]) = .ag [.v (.pointer none)] := by kernel_rfl
theorem tf_18 : tflds Try.prog 18 = some [(0, 1, false)] := by kernel_rfl
theorem td_19 : tdat Try.prog 19 = some ⟨true, 1, 8, .agg #[.pointer none]⟩ := by kernel_rfl
theorem zv_19 : ofV (.agg #[.pointer none]) = .ag [.v (.pointer none)] := by kernel_rfl
theorem tf_19 : tflds Try.prog 19 = some [(0, 1, false)] := by kernel_rfl
theorem nk_20 : nkT Try.prog 20 = some .nki := by kernel_rfl
theorem td_20 : tdat Try.prog 20 = some ⟨false, 1, 16, .nilIface⟩ := by kernel_rfl
theorem zv_20 : ofV (.nilIface) = .v .nilIface := by kernel_rfl
theorem td_21 : tdat Try.prog 21 = some ⟨false, 1, 4, .int .i32 0⟩ := by kernel_rfl
theorem zv_21 : ofV (.int .i32 0) = .v (.int .i32 0) := by kernel_rfl
theorem td_22 : tdat Try.prog 22 = some ⟨false, 1, 24, .slice none 0 0⟩ := by kernel_rfl
theorem zv_22 : ofV (.slice none 0 0) = .sl .full [] := by kernel_rfl
theorem tel_22 : tel Try.prog 22 = some 21 := by kernel_rfl
theorem td_23 : tdat Try.prog 23 = some ⟨false, 1, 24, .slice none 0 0⟩ := by kernel_rfl
theorem zv_23 : ofV (.slice none 0 0) = .sl .full [] := by kernel_rfl
theorem tel_23 : tel Try.prog 23 = some 4 := by kernel_rfl
theorem nk_24 : nkT Try.prog 24 = some .nkf := by kernel_rfl
theorem td_25 : tdat Try.prog 25 = some ⟨true, 2, 24, .agg #[.int .u8 0, .string ⟨#[]⟩]⟩ := by kernel_rfl
theorem zv_25 : ofV (.agg #[.int .u8 0, .string ⟨#[]⟩]) = .ag [.v (.int .u8 0), .v (.string ⟨#[]⟩)] := by kernel_rfl
theorem tf_25 : tflds Try.prog 25 = some [(0, 1, false), (1, 1, false)] := by kernel_rfl
theorem fl_25 : flat1 Try.prog 25 = some [.ski, .sks] := by kernel_rfl
theorem td_26 : tdat Try.prog 26 = some ⟨true, 2, 24, .agg #[.int .u8 0, .string ⟨#[]⟩]⟩ := by kernel_rfl
theorem zv_26 : ofV (.agg #[.int .u8 0, .string ⟨#[]⟩]) = .ag [.v (.int .u8 0), .v (.string ⟨#[]⟩)] := by kernel_rfl
theorem tf_26 : tflds Try.prog 26 = some [(0, 1, false), (1, 1, false)] := by kernel_rfl
theorem fl_26 : flat1 Try.prog 26 = some [.ski, .sks] := by kernel_rfl
theorem td_27 : tdat Try.prog 27 = some ⟨true, 2, 32, .agg #[.string ⟨#[]⟩, .string ⟨#[]⟩]⟩ := by kernel_rfl
theorem zv_27 : ofV (.agg #[.string ⟨#[]⟩, .string ⟨#[]⟩]) = .ag [.v (.string ⟨#[]⟩), .v (.string ⟨#[]⟩)] := by kernel_rfl
theorem tf_27 : tflds Try.prog 27 = some [(0, 1, false), (1, 1, false)] := by kernel_rfl
theorem fl_27 : flat1 Try.prog 27 = some [.sks, .sks] := by kernel_rfl
theorem td_28 : tdat Try.prog 28 = some ⟨true, 2, 32, .agg #[.string ⟨#[]⟩, .string ⟨#[]⟩]⟩ := by kernel_rfl
theorem zv_28 : ofV (.agg #[.string ⟨#[]⟩, .string ⟨#[]⟩]) = .ag [.v (.string ⟨#[]⟩), .v (.string ⟨#[]⟩)] := by kernel_rfl
theorem tf_28 : tflds Try.prog 28 = some [(0, 1, false), (1, 1, false)] := by kernel_rfl
theorem fl_28 : flat1 Try.prog 28 = some [.sks, .sks] := by kernel_rfl
theorem td_29 : tdat Try.prog 29 = some ⟨false, 1, 24, .slice none 0 0⟩ := by kernel_rfl
theorem zv_29 : ofV (.slice none 0 0) = .sl .full [] := by kernel_rfl
theorem tel_29 : tel Try.prog 29 = some 28 := by kernel_rfl
theorem td_30 : tdat Try.prog 30 = some ⟨false, 1, 24, .slice none 0 0⟩ := by kernel_rfl
theorem zv_30 : ofV (.slice none 0 0) = .sl .full [] := by kernel_rfl
theorem tel_30 : tel Try.prog 30 = some 133 := by kernel_rfl
theorem td_31 : tdat Try.prog 31 = some ⟨false, 1, 24, .slice none 0 0⟩ := by kernel_rfl
theorem zv_31 : ofV (.slice none 0 0) = .sl .full [] := by kernel_rfl
theorem tel_31 : tel Try.prog 31 = some 9 := by kernel_rfl
theorem td_32 : tdat Try.prog 32 = some ⟨false, 1, 24, .slice none 0 0⟩ := by kernel_rfl
theorem zv_32 : ofV (.slice none 0 0) = .sl .full [] := by kernel_rfl
theorem tel_32 : tel Try.prog 32 = some 36 := by kernel_rfl
theorem td_33 : tdat Try.prog 33 = some ⟨true, 2, 16, .agg #[.int .i64 0, .int .i64 0]⟩ := by kernel_rfl
theorem zv_33 : ofV (.agg #[.int .i64 0, .int .i64 0]) = .ag [.v (.int .i64 0), .v (.int .i64 0)] := by kernel_rfl
theorem tf_33 : tflds Try.prog 33 = some [(0, 1, false), (1, 1, false)] := by kernel_rfl
theorem fl_33 : flat1 Try.prog 33 = some [.ski, .ski] := by kernel_rfl
theorem td_34 : tdat Try.prog 34 = some ⟨true, 2, 16, .agg #[.int .i64 0, .int .i64 0]⟩ := by kernel_rfl
theorem zv_34 : ofV (.agg #[.int .i64 0, .int .i64 0]) = .ag [.v (.int .i64 0), .v (.int .i64 0)] := by kernel_rfl
theorem tf_34 : tflds Try.prog 34 = some [(0, 1, false), (1, 1, false)] := by kernel_rfl
theorem fl_34 : flat1 Try.prog 34 = some [.ski, .ski] := by kernel_rfl
theorem td_35 : tdat Try.prog 35 = some ⟨true, 8, 88, .agg #[.int .u8 0, .int .u8 0, .int .i32 0, .string ⟨#[]⟩, .slice none 0 0, .slice none 0 0, .int .i64 0, .int .i64 0]⟩ := by kernel_rfl
theorem zv_35 : ofV (.agg #[.int .u8 0, .int .u8 0, .int .i32 0, .string ⟨#[]⟩, .slice none 0 0, .slice none 0 0, .int .i64 0, .int .i64 0]) = .ag [.v (.int .u8 0), .v (.int .u8 0), .v (.int .i32 0), .v (.string ⟨#[]⟩), .sl .full [], .sl .full [], .v (.int .i64 0), .v (.int .i64 0)] := by kernel_rfl
theorem tf_35 : tflds Try.prog 35 = some [(0, 1, false), (1, 1, false), (2, 1, false), (3, 1, false), (4, 1, false), (5, 1, false), (6, 2, true)] := by kernel_rfl
theorem td_36 : tdat Try.prog 36 = some ⟨true, 8, 88, .agg #[.int .u8 0, .int .u8 0, .int .i32 0, .string ⟨#[]⟩, .slice none 0 0, .slice none 0 0, .int .i64 0, .int .i64 0]⟩ := by kernel_rfl
theorem zv_36 : ofV (.agg #[.int .u8 0, .int .u8 0, .int .i32 0, .string ⟨#[]⟩, .slice none 0 0, .slice none 0 0, .int .i64 0, .int .i64 0]) = .ag [.v (.int .u8 0), .v (.int .u8 0), .v (.int .i32 0), .v (.string ⟨#[]⟩), .sl .full [], .sl .full [], .v (.int .i64 0), .v (.int .i64 0)] := by kernel_rfl
theorem tf_36 : tflds Try.prog 36 = some [(0, 1, false), (1, 1, false), (2, 1, false), (3, 1, false), (4, 1, false), (5, 1, false), (6, 2, true)] := by kernel_rfl
theorem td_37 : tdat Try.prog 37 = some ⟨true, 15, 176, .agg #[.string ⟨#[]⟩, .int .u8 0, .string ⟨#[]⟩, .slice none 0 0, .bool false, .int .u8 0, .int .u8 0, .int .i32 0, .string ⟨#[]⟩, .slice none 0 0, .slice none 0 0, .int .i64 0, .int .i64 0, .int .i64 0, .int .i64 0]⟩ := by kernel_rfl
theorem zv_37 : ofV (.agg #[.string ⟨#[]⟩, .int .u8 0, .string ⟨#[]⟩, .slice none 0 0, .bool false, .int .u8 0, .int .u8 0, .int .i32 0, .string ⟨#[]⟩, .slice none 0 0, .slice none 0 0, .int .i64 0, .int .i64 0, .int .i64 0, .int .i64 0]) = .ag [.v (.string ⟨#[]⟩), .v (.int .u8 0), .v (.string ⟨#[]⟩), .sl .full [], .v (.bool false), .v (.int .u8 0), .v (.int .u8 0), .v (.int .i32 0), .v (.string ⟨#[]⟩), .sl .full [], .sl .full [], .v (.int .i64 0), .v (.int .i64 0), .v (.int .i64 0), .v (.int .i64 0)] := by kernel_rfl
theorem tf_37 : tflds Try.prog 37 = some [(0, 1, false), (1, 2, true), (3, 1, false), (4, 1, false), (5, 8, true), (13, 2, true)] := by kernel_rfl
theorem td_38 : tdat Try.prog 38 = some ⟨true, 15, 176, .agg #[.string ⟨#[]⟩, .int .u8 0, .string ⟨#[]⟩, .slice none 0 0, .bool false, .int .u8 0, .int .u8 0, .int .i32 0, .string ⟨#[]⟩, .slice none 0 0, .slice none 0 0, .int .i64 0, .int .i64 0, .int .i64 0, .int .i64 0]⟩ := by kernel_rfl
theorem zv_38 : ofV (.agg #[.string ⟨#[]⟩, .int .u8 0, .string ⟨#[]⟩, .slice none 0 0, .bool false, .int .u8 0, .int .u8 0, .int .i32 0, .string ⟨#[]⟩, .slice none 0 0, .slice none 0 0, .int .i64 0, .int .i64 0, .int .i64 0, .int .i64 0]) = .ag [.v (.string ⟨#[]⟩), .v (.int .u8 0), .v (.string ⟨#[]⟩), .sl .full [], .v (.bool false), .v (.int .u8 0), .v (.int .u8 0), .v (.int .i32 0), .v (.string ⟨#[]⟩), .sl .full [], .sl .full [], .v (.int .i64 0), .v (.int .i64 0), .v (.int .i64 0), .v (.int .i64 0)] := by kernel_rfl
theorem tf_38 : tflds Try.prog 38 = some [(0, 1, false), (1, 2, true), (3, 1, false), (4, 1, false), (5, 8, true), (13, 2, true)] := by kernel_rfl
theorem td_39 : tdat Try.prog 39 = some ⟨false, 1, 24, .slice none 0 0⟩ := by kernel_rfl
theorem zv_39 : ofV (.slice none 0 0) = .sl .full [] := by kernel_rfl
theorem tel_39 : tel Try.prog 39 = some 38 := by kernel_rfl
theorem td_40 : tdat Try.prog 40 = some ⟨false, 1, 24, .slice none 0 0⟩ := by kernel_rfl
theorem zv_40 : ofV (.slice none 0 0) = .sl .full [] := by kernel_rfl
theorem tel_40 : tel Try.prog 40 = some 77 := by kernel_rfl
theorem td_41 : tdat Try.prog 41 = some ⟨false, 1, 24, .slice none 0 0⟩ := by kernel_rfl
theorem zv_41 : ofV (.slice none 0 0) = .sl .full [] := by kernel_rfl
theorem tel_41 : tel Try.prog 41 = some 46 := by kernel_rfl
theorem td_42 : tdat Try.prog 42 = some ⟨true, 7, 160, .agg #[.string ⟨#[]⟩, .slice none 0 0, .slice none 0 0, .slice none 0 0, .slice none 0 0, .slice none 0 0, .slice none 0 0]⟩ := by kernel_rfl
theorem zv_42 : ofV (.agg #[.string ⟨#[]⟩, .slice none 0 0, .slice none 0 0, .slice none 0 0, .slice none 0 0, .slice none 0 0, .slice none 0 0]) = .ag [.v (.string ⟨#[]⟩), .sl .full [], .sl .full [], .sl .full [], .sl .full [], .sl .full [], .sl .full []] := by kernel_rfl
theorem tf_42 : tflds Try.prog 42 = some [(0, 1, false), (1, 1, false), (2, 1, false), (3, 1, false), (4, 1, false), (5, 1, false), (6, 1, false)] := by kernel_rfl
theorem td_43 : tdat Try.prog 43 = some ⟨true, 7, 160, .agg #[.string ⟨#[]⟩, .slice none 0 0, .slice none 0 0, .slice none 0 0, .slice none 0 0, .slice none 0 0, .slice none 0 0]⟩ := by kernel_rfl
theorem zv_43 : ofV (.agg #[.string ⟨#[]⟩, .slice none 0 0, .slice none 0 0, .slice none 0 0, .slice none 0 0, .slice none 0 0, .slice none 0 0]) = .ag [.v (.string ⟨#[]⟩), .sl .full [], .sl .full [], .sl .full [], .sl .full [], .sl .full [], .sl .full []] := by kernel_rfl
theorem tf_43 : tflds Try.prog 43 = some [(0, 1, false), (1, 1, false), (2, 1, false), (3, 1, false), (4, 1, false), (5, 1, false), (6, 1, false)] := by kernel_rfl
theorem nk_44 : nkT Try.prog 44 = some .nkf := by kernel_rfl
theorem td_45 : tdat Try.prog 45 = some ⟨true, 14, 208, .agg #[.int .u8 0, .string ⟨#[]⟩, .int .u8 0, .int .u8 0, .int .i32 0, .string ⟨#[]⟩, .slice none 0 0, .slice none 0 0, .int .i64 0, .int .i64 0, .slice none 0 0, .slice none 0 0, .slice none 0 0, .slice none 0 0]⟩ := by kernel_rfl
theorem zv_45 : ofV (.agg #[.int .u8 0, .string ⟨#[]⟩, .int .u8 0, .int .u8 0, .int .i32 0, .string ⟨#[]⟩, .slice none 0 0, .slice none 0 0, .int .i64 0, .int .i64 0, .slice none 0 0, .slice none 0 0, .slice none 0 0, .slice none 0 0]) = .ag [.v (.int .u8 0), .v (.string ⟨#[]⟩), .v (.int .u8 0), .v (.int .u8 0), .v (.int .i32 0), .v (.string ⟨#[]⟩), .sl .full [], .sl .full [], .v (.int .i64 0), .v (.int .i64 0), .sl .full [], .sl .full [], .sl .full [], .sl .full []] := by kernel_rfl
theorem tf_45 : tflds Try.prog 45 = some [(0, 1, false), (1, 1, false), (2, 8, true), (10, 1, false), (11, 1, false), (12, 1, false), (13, 1, false)] := by kernel_rfl
theorem td_46 : tdat Try.prog 46 = some ⟨true, 14, 208, .agg #[.int .u8 0, .string ⟨#[]⟩, .int .u8 0, .int .u8 0, .int .i32 0, .string ⟨#[]⟩, .slice none 0 0, .slice none 0 0, .int .i64 0, .int .i64 0, .slice none 0 0, .slice none 0 0, .slice none 0 0, .slice none 0 0]⟩ := by kernel_rfl
theorem zv_46 : ofV (.agg #[.int .u8 0, .string ⟨#[]⟩, .int .u8 0, .int .u8 0, .int .i32 0, .string ⟨#[]⟩, .slice none 0 0, .slice none 0 0, .int .i64 0, .int .i64 0, .slice none 0 0, .slice none 0 0, .slice none 0 0, .slice none 0 0]) = .ag [.v (.int .u8 0), .v (.string ⟨#[]⟩), .v (.int .u8 0), .v (.int .u8 0), .v (.int .i32 0), .v (.string ⟨#[]⟩), .sl .full [], .sl .full [], .v (.int .i64 0), .v (.int .i64 0), .sl .full [], .sl .full [], .sl .full [], .sl .full []] := by kernel_rfl
theorem tf_46 : tflds Try.prog 46 = some [(0, 1, false), (1, 1, false), (2, 8, true), (10, 1, false), (11, 1, false), (12, 1, false), (13, 1, false)] := by kernel_rfl
theorem nk_47 : nkT Try.prog 47 = some .nkf := by kernel_rfl
theorem nk_48 : nkT Try.prog 48 = some .nkp := by kernel_rfl
theorem td_48 : tdat Try.prog 48 = some ⟨false, 1, 8, .pointer none⟩ := by kernel_rfl
theorem zv_48 : ofV (.pointer none) = .v (.pointer none) := by kernel_rfl
theorem td_49 : tdat Try.prog 49 = some ⟨false, 1, 8, .int .i64 0⟩ := by kernel_rfl
theorem zv_49 : ofV (.int .i64 0) = .v (.int .i64 0) := by kernel_rfl
theorem nk_51 : nkT Try.prog 51 = some .nkf := by kernel_rfl
theorem nk_52 : nkT Try.prog 52 = some .nkf := by kernel_rfl
theorem td_53 : tdat Try.prog 53 = some ⟨false, 1, 24, .slice none 0 0⟩ := by kernel_rfl
theorem zv_53 : ofV (.slice none 0 0) = .sl .full [] := by kernel_rfl
theorem tel_53 : tel Try.prog 53 = some 43 := by kernel_rfl
theorem td_54 : tdat Try.prog 54 = some ⟨false, 1, 24, .slice none 0 0⟩ := by kernel_rfl
theorem zv_54 : ofV (.slice none 0 0) = .sl .full [] := by kernel_rfl
theorem tel_54 : tel Try.prog 54 = some 107 := by kernel_rfl
theorem td_55 : tdat Try.prog 55 = some ⟨true, 2, 48, .agg #[.slice none 0 0, .slice none 0 0]⟩ := by kernel_rfl
theorem zv_55 : ofV (.agg #[.slice none 0 0, .slice none 0 0]) = .ag [.sl .full [], .sl .full []] := by kernel_rfl
theorem tf_55 : tflds Try.prog 55 = some [(0, 1, false), (1, 1, false)] := by kernel_rfl
theorem td_56 : tdat Try.prog 56 = some ⟨true, 2, 48, .agg #[.slice none 0 0, .slice none 0 0]⟩ := by kernel_rfl
theorem zv_56 : ofV (.agg #[.slice none 0 0, .slice none 0 0]) = .ag [.sl .full [], .sl .full []] := by kernel_rfl
theorem tf_56 : tflds Try.prog 56 = some [(0, 1, false), (1, 1, false)] := by kernel_rfl
theorem nk_58 : nkT Try.prog 58 = some .nkf := by kernel_rfl
theorem nk_59 : nkT Try.prog 59 = some .nkf := by kernel_rfl
theorem nk_60 : nkT Try.prog 60 = some .nkf := by kernel_rfl
theorem nk_61 : nkT Try.prog 61 = some .nkf := by kernel_rfl
theorem nk_63 : nkT Try.prog 63 = some .nkf := by kernel_rfl
theorem nk_64 : nkT Try.prog 64 = some .nkf := by kernel_rfl
theorem td_65 : tdat Try.prog 65 = some ⟨false, 1, 24, .slice none 0 0⟩ := by kernel_rfl
theorem zv_65 : ofV (.slice none 0 0) = .sl .full [] := by kernel_rfl
theorem tel_65 : tel Try.prog 65 = some 5 := by kernel_rfl
theorem nk_66 : nkT Try.prog 66 = some .nkf := by kernel_rfl
theorem nk_67 : nkT Try.prog 67 = some .nkp := by kernel_rfl
theorem td_67 : tdat Try.prog 67 = some ⟨false, 1, 8, .pointer none⟩ := by kernel_rfl
theorem zv_67 : ofV (.pointer none) = .v (.pointer none) := by kernel_rfl
theorem nk_68 : nkT Try.prog 68 = some .nkf := by kernel_rfl
theorem nk_69 : nkT Try.prog 69 = some .nkf := by kernel_rfl
theorem nk_70 : nkT Try.prog 70 = some .nkf := by kernel_rfl
theorem nk_71 : nkT Try.prog 71 = some .nkf := by kernel_rfl
theorem nk_72 : nkT Try.prog 72 = some .nkf := by kernel_rfl
theorem nk_73 : nkT Try.prog 73 = some .nkf := by kernel_rfl
theorem nk_74 : nkT Try.prog 74 = some .nkf := by kernel_rfl
theorem nk_75 : nkT Try.prog 75 = some .nkf := by kernel_rfl
theorem td_76 : tdat Try.prog 76 = some ⟨true, 11, 128, .agg #[.string ⟨#[]⟩, .int .u8 0, .string ⟨#[]⟩, .int .u8 0, .int .u8 0, .int .i32 0, .string ⟨#[]⟩, .slice none 0 0, .slice none 0 0, .int .i64 0, .int .i64 0]⟩ := by kernel_rfl
theorem zv_76 : ofV (.agg #[.string ⟨#[]⟩, .int .u8 0, .string ⟨#[]⟩, .int .u8 0, .int .u8 0, .int .i32 0, .string ⟨#[]⟩, .slice none 0 0, .slice none 0 0, .int .i64 0, .int .i64 0]) = .ag [.v (.string ⟨#[]⟩), .v (.int .u8 0), .v (.string ⟨#[]⟩), .v (.int .u8 0), .v (.int .u8 0), .v (.int .i32 0), .v (.string ⟨#[]⟩), .sl .full [], .sl .full [], .v (.int .i64 0), .v (.int .i64 0)] := by kernel_rfl
theorem tf_76 : tflds Try.prog 76 = some [(0, 1, false), (1, 2, true), (3, 8, true)] := by kernel_rfl
theorem td_77 : tdat Try.prog 77 = some ⟨true, 11, 128, .agg #[.string ⟨#[]⟩, .int .u8 0, .string ⟨#[]⟩, .int .u8 0, .int .u8 0, .int .i32 0, .string ⟨#[]⟩, .slice none 0 0, .slice none 0 0, .int .i64 0, .int .i64 0]⟩ := by kernel_rfl
theorem zv_77 : ofV (.agg #[.string ⟨#[]⟩, .int .u8 0, .string ⟨#[]⟩, .int .u8 0, .int .u8 0, .int .i32 0, .string ⟨#[]⟩, .slice none 0 0, .slice none 0 0, .int .i64 0, .int .i64 0]) = .ag [.v (.string ⟨#[]⟩), .v (.int .u8 0), .v (.string ⟨#[]⟩), .v (.int .u8 0), .v (.int .u8 0), .v (.int .i32 0), .v (.string ⟨#[]⟩), .sl .full [], .sl .full [], .v (.int .i64 0), .v (.int .i64 0)] := by kernel_rfl
theorem tf_77 : tflds Try.prog 77 = some [(0, 1, false), (1, 2, true), (3, 8, true)] := by kernel_rfl
theorem nk_78 : nkT Try.prog 78 = some .nkf := by kernel_rfl
theorem td_79 : tdat Try.prog 79 = some ⟨false, 1, 8, .map none⟩ := by kernel_rfl
theorem zv_79 : ofV (.map none) = .v (.map none) := by kernel_rfl
theorem td_80 : tdat Try.prog 80 = some ⟨false, 1, 8, .map none⟩ := by kernel_rfl
theorem zv_80 : ofV (.map none) = .v (.map none) := by kernel_rfl
theorem td_81 : tdat Try.prog 81 = some ⟨true, 11, 224, .agg #[.slice none 0 0, .slice none 0 0, .string ⟨#[]⟩, .slice none 0 0, .slice none 0 0, .slice none 0 0, .slice none 0 0, .slice none 0 0, .slice none 0 0, .map none, .map none]⟩ := by kernel_rfl
theorem zv_81 : ofV (.agg #[.slice none 0 0, .slice none 0 0, .string ⟨#[]⟩, .slice none 0 0, .slice none 0 0, .slice none 0 0, .slice none 0 0, .slice none 0 0, .slice none 0 0, .map none, .map none]) = .ag [.sl .full [], .sl .full [], .v (.string ⟨#[]⟩), .sl .full [], .sl .full [], .sl .full [], .sl .full [], .sl .full [], .sl .full [], .v (.map none), .v (.map none)] := by kernel_rfl
theorem tf_81 : tflds Try.prog 81 = some [(0, 2, true), (2, 7, true), (9, 1, false), (10, 1, false)] := by kernel_rfl
theorem td_82 : tdat Try.prog 82 = some ⟨true, 11, 224, .agg #[.slice none 0 0, .slice none 0 0, .string ⟨#[]⟩, .slice none 0 0, .slice none 0 0, .slice none 0 0, .slice none 0 0, .slice none 0 0, .slice none 0 0, .map none, .map none]⟩ := by kernel_rfl
theorem zv_82 : ofV (.agg #[.slice none 0 0, .slice none 0 0, .string ⟨#[]⟩, .slice none 0 0, .slice none 0 0, .slice none 0 0, .slice none 0 0, .slice none 0 0, .slice none 0 0, .map none, .map none]) = .ag [.sl .full [], .sl .full [], .v (.string ⟨#[]⟩), .sl .full [], .sl .full [], .sl .full [], .sl .full [], .sl .full [], .sl .full [], .v (.map none), .v (.map none)] := by kernel_rfl
theorem tf_82 : tflds Try.prog 82 = some [(0, 2, true), (2, 7, true), (9, 1, false), (10, 1, false)] := by kernel_rfl
theorem nk_83 : nkT Try.prog 83 = some .nkp := by kernel_rfl
theorem td_83 : tdat Try.prog 83 = some ⟨false, 1, 8, .pointer none⟩ := by kernel_rfl
theorem zv_83 : ofV (.pointer none) = .v (.pointer none) := by kernel_rfl
theorem td_84 : tdat Try.prog 84 = some ⟨true, 3, 24, .agg #[.pointer none, .map none, .bool false]⟩ := by kernel_rfl
theorem zv_84 : ofV (.agg #[.pointer none, .map none, .bool false]) = .ag [.v (.pointer none), .v (.map none), .v (.bool false)] := by kernel_rfl
theorem tf_84 : tflds Try.prog 84 = some [(0, 1, false), (1, 1, false), (2, 1, false)] := by kernel_rfl
theorem td_85 : tdat Try.prog 85 = some ⟨true, 3, 24, .agg #[.pointer none, .map none, .bool false]⟩ := by kernel_rfl
theorem zv_85 : ofV (.agg #[.pointer none, .map none, .bool false]) = .ag [.v (.pointer none), .v (.map none), .v (.bool false)] := by kernel_rfl
theorem tf_85 : tflds Try.prog 85 = some [(0, 1, false), (1, 1, false), (2, 1, false)] := by kernel_rfl
theorem nk_86 : nkT Try.prog 86 = some .nkf := by kernel_rfl
theorem nk_87 : nkT Try.prog 87 = some .nkf := by kernel_rfl
theorem nk_88 : nkT Try.prog 88 = some .nkf := by kernel_rfl
theorem nk_89 : nkT Try.prog 89 = some .nkf := by kernel_rfl
theorem nk_90 : nkT Try.prog 90 = some .nkf := by kernel_rfl
theorem nk_91 : nkT Try.prog 91 = some .nkf := by kernel_rfl
theorem nk_92 : nkT Try.prog 92 = some .nkf := by kernel_rfl
theorem nk_93 : nkT Try.prog 93 = some .nkf := by kernel_rfl
theorem nk_94 : nkT Try.prog 94 = some .nkf := by kernel_rfl
theorem nk_95 : nkT Try.prog 95 = some .nkf := by kernel_rfl
theorem nk_96 : nkT Try.prog 96 = some .nkf := by kernel_rfl
theorem nk_97 : nkT Try.prog 97 = some .nkf := by kernel_rfl
theorem nk_98 : nkT Try.prog 98 = some .nkf := by kernel_rfl
theorem nk_99 : nkT Try.prog 99 = some .nkf := by kernel_rfl
theorem nk_100 : nkT Try.prog 100 = some .nkf := by kernel_rfl
theorem nk_101 : nkT Try.prog 101 = some .nkf := by kernel_rfl
theorem nk_102 : nkT Try.prog 102 = some .nkf := by kernel_rfl
theorem nk_103 : nkT Try.prog 103 = some .nkf := by kernel_rfl
theorem nk_104 : nkT Try.prog 104 = some .nkf := by kernel_rfl
theorem nk_105 : nkT Try.prog 105 = some .nkf := by kernel_rfl
theorem td_106 : tdat Try.prog 106 = some ⟨true, 4, 56, .agg #[.string ⟨#[]⟩, .slice none 0 0, .int .i64 0, .int .i64 0]⟩ := by kernel_rfl
theorem zv_106 : ofV (.agg #[.string ⟨#[]⟩, .slice none 0 0, .int .i64 0, .int .i64 0]) = .ag [.v (.string ⟨#[]⟩), .sl .full [], .v (.int .i64 0), .v (.int .i64 0)] := by kernel_rfl
theorem tf_106 : tflds Try.prog 106 = some [(0, 1, false), (1, 1, false), (2, 2, true)] := by kernel_rfl
theorem td_107 : tdat Try.prog 107 = some ⟨true, 4, 56, .agg #[.string ⟨#[]⟩, .slice none 0 0, .int .i64 0, .int .i64 0]⟩ := by kernel_rfl
theorem zv_107 : ofV (.agg #[.string ⟨#[]⟩, .slice none 0 0, .int .i64 0, .int .i64 0]) = .ag [.v (.string ⟨#[]⟩), .sl .full [], .v (.int .i64 0), .v (.int .i64 0)] := by kernel_rfl
theorem tf_107 : tflds Try.prog 107 = some [(0, 1, false), (1, 1, false), (2, 2, true)] := by kernel_rfl
theorem nk_108 : nkT Try.prog 108 = some .nkf := by kernel_rfl
theorem nk_109 : nkT Try.prog 109 = some .nkf := by kernel_rfl
theorem td_110 : tdat Try.prog 110 = some ⟨false, 1, 24, .slice none 0 0⟩ := by kernel_rfl
theorem zv_110 : ofV (.slice none 0 0) = .sl .full [] := by kernel_rfl
theorem tel_110 : tel Try.prog 110 = some 31 := by kernel_rfl
theorem nk_111 : nkT Try.prog 111 = some .nkf := by kernel_rfl
theorem nk_112 : nkT Try.prog 112 = some .nkf := by kernel_rfl
theorem nk_113 : nkT Try.prog 113 = some .nkf := by kernel_rfl
theorem nk_114 : nkT Try.prog 114 = some .nkf := by kernel_rfl
theorem nk_115 : nkT Try.prog 115 = some .nkf := by kernel_rfl
theorem nk_116 : nkT Try.prog 116 = some .nkf := by kernel_rfl
theorem td_117 : tdat Try.prog 117 = some ⟨true, 4, 40, .agg #[.pointer none, .pointer none, .pointer none, .string ⟨#[]⟩]⟩ := by kernel_rfl
theorem zv_117 : ofV (.agg #[.pointer none, .pointer none, .pointer none, .string ⟨#[]⟩]) = .ag [.v (.pointer none), .v (.pointer none), .v (.pointer none), .v (.string ⟨#[]⟩)] := by kernel_rfl
theorem tf_117 : tflds Try.prog 117 = some [(0, 1, false), (1, 1, false), (2, 1, false), (3, 1, false)] := by kernel_rfl
theorem td_118 : tdat Try.prog 118 = some ⟨true, 4, 40, .agg #[.pointer none, .pointer none, .pointer none, .string ⟨#[]⟩]⟩ := by kernel_rfl
theorem zv_118 : ofV (.agg #[.pointer none, .pointer none, .pointer none, .string ⟨#[]⟩]) = .ag [.v (.pointer none), .v (.pointer none), .v (.pointer none), .v (.string ⟨#[]⟩)] := by kernel_rfl
theorem tf_118 : tflds Try.prog 118 = some [(0, 1, false), (1, 1, false), (2, 1, false), (3, 1, false)] := by kernel_rfl
theorem td_119 : tdat Try.prog 119 = some ⟨true, 0, 0, .agg #[]⟩ := by kernel_rfl
theorem zv_119 : ofV (.agg #[]) = .ag [] := by kernel_rfl
theorem tf_119 : tflds Try.prog 119 = none := by kernel_rfl
theorem tel_119 : tel Try.prog 119 = none := by kernel_rfl
theorem ta_119 : tarr Try.prog 119 = some (0, 16) := by kernel_rfl
theorem td_120 : tdat Try.prog 120 = some ⟨true, 0, 0, .agg #[]⟩ := by kernel_rfl
theorem zv_120 : ofV (.agg #[]) = .ag [] := by kernel_rfl
theorem tf_120 : tflds Try.prog 120 = some [(0, 0, true)] := by kernel_rfl
theorem td_121 : tdat Try.prog 121 = some ⟨true, 0, 0, .agg #[]⟩ := by kernel_rfl
theorem zv_121 : ofV (.agg #[]) = .ag [] := by kernel_rfl
theorem tf_121 : tflds Try.prog 121 = some [(0, 0, true)] := by kernel_rfl
theorem nk_122 : nkT Try.prog 122 = some .nkf := by kernel_rfl
theorem td_123 : tdat Try.prog 123 = some ⟨false, 1, 4, .int .u32 0⟩ := by kernel_rfl
theorem zv_123 : ofV (.int .u32 0) = .v (.int .u32 0) := by kernel_rfl
theorem td_124 : tdat Try.prog 124 = some ⟨false, 1, 1, .int .u8 0⟩ := by kernel_rfl
theorem zv_124 : ofV (.int .u8 0) = .v (.int .u8 0) := by kernel_rfl
theorem td_125 : tdat Try.prog 125 = some ⟨false, 1, 1, .int .u8 0⟩ := by kernel_rfl
theorem zv_125 : ofV (.int .u8 0) = .v (.int .u8 0) := by kernel_rfl
theorem nk_126 : nkT Try.prog 126 = some .nkf := by kernel_rfl
theorem nk_127 : nkT Try.prog 127 = some .nkp := by kernel_rfl
theorem td_127 : tdat Try.prog 127 = some ⟨false, 1, 8, .pointer none⟩ := by kernel_rfl
theorem zv_127 : ofV (.pointer none) = .v (.pointer none) := by kernel_rfl
theorem td_128 : tdat Try.prog 128 = some ⟨false, 1, 4, .int .i32 0⟩ := by kernel_rfl
theorem zv_128 : ofV (.int .i32 0) = .v (.int .i32 0) := by kernel_rfl
theorem td_129 : tdat Try.prog 129 = some ⟨false, 1, 4, .int .i32 0⟩ := by kernel_rfl
theorem zv_129 : ofV (.int .i32 0) = .v (.int .i32 0) := by kernel_rfl
theorem td_130 : tdat Try.prog 130 = some ⟨true, 11, 48, .agg #[.int .u64 0, .int .u64 0, .int .u32 0, .int .u8 0, .int .u8 0, .int .u8 0, .int .u8 0, .nilFunc, .pointer none, .int .i32 0, .int .i32 0]⟩ := by kernel_rfl
theorem zv_130 : ofV (.agg #[.int .u64 0, .int .u64 0, .int .u32 0, .int .u8 0, .int .u8 0, .int .u8 0, .int .u8 0, .nilFunc, .pointer none, .int .i32 0, .int .i32 0]) = .ag [.v (.int .u64 0), .v (.int .u64 0), .v (.int .u32 0), .v (.int .u8 0), .v (.int .u8 0), .v (.int .u8 0), .v (.int .u8 0), .v .nilFunc, .v (.pointer none), .v (.int .i32 0), .v (.int .i32 0)] := by kernel_rfl
theorem tf_130 : tflds Try.prog 130 = some [(0, 1, false), (1, 1, false), (2, 1, false), (3, 1, false), (4, 1, false), (5, 1, false), (6, 1, false), (7, 1, false), (8, 1, false), (9, 1, false), (10, 1, false)] := by kernel_rfl
theorem td_131 : tdat Try.prog 131 = some ⟨true, 11, 48, .agg #[.int .u64 0, .int .u64 0, .int .u32 0, .int .u8 0, .int .u8 0, .int .u8 0, .int .u8 0, .nilFunc, .pointer none, .int .i32 0, .int .i32 0]⟩ := by kernel_rfl
theorem zv_131 : ofV (.agg #[.int .u64 0, .int .u64 0, .int .u32 0, .int .u8 0, .int .u8 0, .int .u8 0, .int .u8 0, .nilFunc, .pointer none, .int .i32 0, .int .i32 0]) = .ag [.v (.int .u64 0), .v (.int .u64 0), .v (.int .u32 0), .v (.int .u8 0), .v (.int .u8 0), .v (.int .u8 0), .v (.int .u8 0), .v .nilFunc, .v (.pointer none), .v (.int .i32 0), .v (.int .i32 0)] := by kernel_rfl
theorem tf_131 : tflds Try.prog 131 = some [(0, 1, false), (1, 1, false), (2, 1, false), (3, 1, false), (4, 1, false), (5, 1, false), (6, 1, false), (7, 1, false), (8, 1, false), (9, 1, false), (10, 1, false)] := by kernel_rfl
theorem td_132 : tdat Try.prog 132 = some ⟨true, 2, 32, .agg #[.string ⟨#[]⟩, .string ⟨#[]⟩]⟩ := by kernel_rfl
theorem zv_132 : ofV (.agg #[.string ⟨#[]⟩, .string ⟨#[]⟩]) = .ag [.v (.string ⟨#[]⟩), .v (.string ⟨#[]⟩)] := by kernel_rfl
theorem tf_132 : tflds Try.prog 132 = some [(0, 1, false), (1, 1, false)] := by kernel_rfl
theorem fl_132 : flat1 Try.prog 132 = some [.sks, .sks] := by kernel_rfl
theorem td_133 : tdat Try.prog 133 = some ⟨true, 2, 32, .agg #[.string ⟨#[]⟩, .string ⟨#[]⟩]⟩ := by kernel_rfl
theorem zv_133 : ofV (.agg #[.string ⟨#[]⟩, .string ⟨#[]⟩]) = .ag [.v (.string ⟨#[]⟩), .v (.string ⟨#[]⟩)] := by kernel_rfl
theorem tf_133 : tflds Try.prog 133 = some [(0, 1, false), (1, 1, false)] := by kernel_rfl
theorem fl_133 : flat1 Try.prog 133 = some [.sks, .sks] := by kernel_rfl
theorem td_134 : tdat Try.prog 134 = some ⟨false, 1, 8, .pointer none⟩ := by kernel_rfl
theorem zv_134 : ofV (.pointer none) = .v (.pointer none) := by kernel_rfl
set_option linter.defProp false
def tfA0 := And.intro @nk_1 (And.intro @td_2 (And.intro @zv_2 (And.intro @Try.underlying2 (And.intro @td_3 (And.intro @zv_3 (And.intro @Try.underlying3 (And.intro @td_4 (And.intro @zv_4 (And.intro @Try.underlying4 (And.intro @td_5 (And.intro @zv_5 (And.intro @Try.underlying5 (And.intro @td_6 (And.intro @zv_6 (And.intro @Try.underlying6 (And.intro @td_7 (And.intro @zv_7 (And.intro @tf_7 (And.intro @td_8 (And.intro @zv_8 (And.intro @tf_8 (And.intro @td_9 (And.intro @zv_9 (And.intro @Try.underlying9 (And.intro @td_10 (And.intro @zv_10 (And.intro @Try.underlying10 (And.intro @td_11 @zv_11))))))))))))))))))))))))))))
def tfA1 := And.intro @Try.underlying11 (And.intro @td_12 (And.intro @zv_12 (And.intro @Try.underlying12 (And.intro @td_13 (And.intro @zv_13 (And.intro @tf_13 (And.intro @td_14 (And.intro @zv_14 (And.intro @tf_14 (And.intro @nk_15 (And.intro @td_15 (And.intro @zv_15 (And.intro @Try.underlying15 (And.intro @nk_16 (And.intro @td_16 (And.intro @zv_16 (And.intro @Try.underlying16 (And.intro @nk_17 (And.intro @td_17 (And.intro @zv_17 (And.intro @Try.underlying17 (And.intro @td_18 (And.intro @zv_18 (And.intro @tf_18 (And.intro @td_19 (And.intro @zv_19 (And.intro @tf_19 (And.intro @nk_20 @td_20))))))))))))))))))))))))))))
def tfA2 := And.intro @zv_20 (And.intro @td_21 (And.intro @zv_21 (And.intro @Try.underlying21 (And.intro @td_22 (And.intro @zv_22 (And.intro @tel_22 (And.intro @Try.underlying22 (And.intro @td_23 (And.intro @zv_23 (And.intro @tel_23 (And.intro @Try.underlying23 (And.intro @nk_24 (And.intro @td_25 (And.intro @zv_25 (And.intro @tf_25 (And.intro @fl_25 (And.intro @td_26 (And.intro @zv_26 (And.intro @tf_26 (And.intro @fl_26 (And.intro @td_27 (And.intro @zv_27 (And.intro @tf_27 (And.intro @fl_27 (And.intro @td_28 (And.intro @zv_28 (And.intro @tf_28 (And.intro @fl_28 @td_29))))))))))))))))))))))))))))
def tfA3 := And.intro @zv_29 (And.intro @tel_29 (And.intro @Try.underlying29 (And.intro @td_30 (And.intro @zv_30 (And.intro @tel_30 (And.intro @Try.underlying30 (And.intro @td_31 (And.intro @zv_31 (And.intro @tel_31 (And.intro @Try.underlying31 (And.intro @td_32 (And.intro @zv_32 (And.intro @tel_32 (And.intro @Try.underlying32 (And.intro @td_33 (And.intro @zv_33 (And.intro @tf_33 (And.intro @fl_33 (And.intro @td_34 (And.intro @zv_34 (And.intro @tf_34 (And.intro @fl_34 (And.intro @td_35 (And.intro @zv_35 (And.intro @tf_35 (And.intro @td_36 (And.intro @zv_36 (And.intro @tf_36 @td_37))))))))))))))))))))))))))))
def tfA4 := And.intro @zv_37 (And.intro @tf_37 (And.intro @td_38 (And.intro @zv_38 (And.intro @tf_38 (And.intro @td_39 (And.intro @zv_39 (And.intro @tel_39 (And.intro @Try.underlying39 (And.intro @td_40 (And.intro @zv_40 (And.intro @tel_40 (And.intro @Try.underlying40 (And.intro @td_41 (And.intro @zv_41 (And.intro @tel_41 (And.intro @Try.underlying41 (And.intro @td_42 (And.intro @zv_42 (And.intro @tf_42 (And.intro @td_43 (And.intro @zv_43 (And.intro @tf_43 (And.intro @nk_44 (And.intro @td_45 (And.intro @zv_45 (And.intro @tf_45 (And.intro @td_46 (And.intro @zv_46 @tf_46))))))))))))))))))))))))))))
def tfA5 := And.intro @nk_47 (And.intro @nk_48 (And.intro @td_48 (And.intro @zv_48 (And.intro @Try.underlying48 (And.intro @td_49 (And.intro @zv_49 (And.intro @Try.underlying49 (And.intro @nk_51 (And.intro @nk_52 (And.intro @td_53 (And.intro @zv_53 (And.intro @tel_53 (And.intro @Try.underlying53 (And.intro @td_54 (And.intro @zv_54 (And.intro @tel_54 (And.intro @Try.underlying54 (And.intro @td_55 (And.intro @zv_55 (And.intro @tf_55 (And.intro @td_56 (And.intro @zv_56 (And.intro @tf_56 (And.intro @nk_58 (And.intro @nk_59 (And.intro @nk_60 (And.intro @nk_61 (And.intro @nk_63 @nk_64))))))))))))))))))))))))))))
def tfA6 := And.intro @td_65 (And.intro @zv_65 (And.intro @tel_65 (And.intro @Try.underlying65 (And.intro @nk_66 (And.intro @nk_67 (And.intro @td_67 (And.intro @zv_67 (And.intro @Try.underlying67 (And.intro @nk_68 (And.intro @nk_69 (And.intro @nk_70 (And.intro @nk_71 (And.intro @nk_72 (And.intro @nk_73 (And.intro @nk_74 (And.intro @nk_75 (And.intro @td_76 (And.intro @zv_76 (And.intro @tf_76 (And.intro @td_77 (And.intro @zv_77 (And.intro @tf_77 (And.intro @nk_78 (And.intro @td_79 (And.intro @zv_79 (And.intro @td_80 (And.intro @zv_80 (And.intro @td_81 @zv_81))))))))))))))))))))))))))))
def tfA7 := And.intro @tf_81 (And.intro @td_82 (And.intro @zv_82 (And.intro @tf_82 (And.intro @nk_83 (And.intro @td_83 (And.intro @zv_83 (And.intro @Try.underlying83 (And.intro @td_84 (And.intro @zv_84 (And.intro @tf_84 (And.intro @td_85 (And.intro @zv_85 (And.intro @tf_85 (And.intro @nk_86 (And.intro @nk_87 (And.intro @nk_88 (And.intro @nk_89 (And.intro @nk_90 (And.intro @nk_91 (And.intro @nk_92 (And.intro @nk_93 (And.intro @nk_94 (And.intro @nk_95 (And.intro @nk_96 (And.intro @nk_97 (And.intro @nk_98 (And.intro @nk_99 (And.intro @nk_100 @nk_101))))))))))))))))))))))))))))
def tfA8 := And.intro @nk_102 (And.intro @nk_103 (And.intro @nk_104 (And.intro @nk_105 (And.intro @td_106 (And.intro @zv_106 (And.intro @tf_106 (And.intro @td_107 (And.intro @zv_107 (And.intro @tf_107 (And.intro @nk_108 (And.intro @nk_109 (And.intro @td_110 (And.intro @zv_110 (And.intro @tel_110 (And.intro @Try.underlying110 (And.intro @nk_111 (And.intro @nk_112 (And.intro @nk_113 (And.intro @nk_114 (And.intro @nk_115 (And.intro @nk_116 (And.intro @td_117 (And.intro @zv_117 (And.intro @tf_117 (And.intro @td_118 (And.intro @zv_118 (And.intro @tf_118 (And.intro @td_119 @zv_119))))))))))))))))))))))))))))
def tfA9 := And.intro @tf_119 (And.intro @tel_119 (And.intro @ta_119 (And.intro @Try.underlying119 (And.intro @td_120 (And.intro @zv_120 (And.intro @tf_120 (And.intro @td_121 (And.intro @zv_121 (And.intro @tf_121 (And.intro @nk_122 (And.intro @td_123 (And.intro @zv_123 (And.intro @Try.underlying123 (And.intro @td_124 (And.intro @zv_124 (And.intro @Try.underlying124 (And.intro @td_125 (And.intro @zv_125 (And.intro @Try.underlying125 (And.intro @nk_126 (And.intro @nk_127 (And.intro @td_127 (And.intro @zv_127 (And.intro @Try.underlying127 (And.intro @td_128 (And.intro @zv_128 (And.intro @Try.underlying128 (And.intro @td_129 @zv_129))))))))))))))))))))))))))))
def tfA10 := And.intro @Try.underlying129 (And.intro @td_130 (And.intro @zv_130 (And.intro @tf_130 (And.intro @td_131 (And.intro @zv_131 (And.intro @tf_131 (And.intro @td_132 (And.intro @zv_132 (And.intro @tf_132 (And.intro @fl_132 (And.intro @td_133 (And.intro @zv_133 (And.intro @tf_133 (And.intro @fl_133 (And.intro @td_134 @zv_134)))))))))))))))
def tfA := And.intro @tfA0 (And.intro @tfA1 (And.intro @tfA2 (And.intro @tfA3 (And.intro @tfA4 (And.intro @tfA5 (And.intro @tfA6 (And.intro @tfA7 (And.intro @tfA8 (And.intro @tfA9 @tfA10)))))))))
end Go.Proofs.Ytmcajiccepgagaa
