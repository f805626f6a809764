/-
  Closed facts on the types of this seat.
-/
import Derived.Test.YtijdhfjdnndkmaaRows
import Derived.Test.YtijdhfjdnndkmaaAbFn
import Derived.KernelRfl
namespace Go.Proofs.Ytijdhfjdnndkmaa
open Go Go.RowKit
theorem ok_mix : Try.prog.follows .mixedOrders = true := by kernel_rfl
theorem nk_1 : nkT Try.prog 1 = some .nkf := by kernel_rfl
theorem td_2 : tdat Try.prog 2 = some ⟨false, 1, 8, .int .i64 0⟩ := by kernel_rfl
theorem zv_2 : ofV (.int .i64 0) = .v (.int .i64 0) := by kernel_rfl
theorem td_3 : tdat Try.prog 3 = some ⟨false, 1, 8, .int .i64 0⟩ := by kernel_rfl
theorem zv_3 : ofV (.int .i64 0) = .v (.int .i64 0) := by kernel_rfl
theorem td_4 : tdat Try.prog 4 = some ⟨false, 1, 1, .bool false⟩ := by kernel_rfl
theorem zv_4 : ofV (.bool false) = .v (.bool false) := by kernel_rfl
theorem td_5 : tdat Try.prog 5 = some ⟨false, 1, 1, .int .u8 0⟩ := by kernel_rfl
theorem zv_5 : ofV (.int .u8 0) = .v (.int .u8 0) := by kernel_rfl
theorem td_6 : tdat Try.prog 6 = some ⟨false, 1, 1, .int .u8 0⟩ := by kernel_rfl
theorem zv_6 : ofV (.int .u8 0) = .v (.int .u8 0) := by kernel_rfl
theorem td_7 : tdat Try.prog 7 = some ⟨true, 4, 24, .agg #[.int .i64 0, .int .i64 0, .bool false, .int .u8 0]⟩ := by kernel_rfl
theorem zv_7 : ofV (.agg #[.int .i64 0, .int .i64 0, .bool false, .int .u8 0]) = .ag [.v (.int .i64 0), .v (.int .i64 0), .v (.bool false), .v (.int .u8 0)] := by kernel_rfl
theorem tf_7 : tflds Try.prog 7 = some [(0, 1, false), (1, 1, false), (2, 1, false), (3, 1, false)] := by kernel_rfl
theorem td_8 : tdat Try.prog 8 = some ⟨true, 4, 24, .agg #[.int .i64 0, .int .i64 0, .bool false, .int .u8 0]⟩ := by kernel_rfl
theorem zv_8 : ofV (.agg #[.int .i64 0, .int .i64 0, .bool false, .int .u8 0]) = .ag [.v (.int .i64 0), .v (.int .i64 0), .v (.bool false), .v (.int .u8 0)] := by kernel_rfl
theorem tf_8 : tflds Try.prog 8 = some [(0, 1, false), (1, 1, false), (2, 1, false), (3, 1, false)] := by kernel_rfl
theorem td_9 : tdat Try.prog 9 = some ⟨false, 1, 16, .string ⟨#[]⟩⟩ := by kernel_rfl
theorem zv_9 : ofV (.string ⟨#[]⟩) = .v (.string ⟨#[]⟩) := by kernel_rfl
theorem td_10 : tdat Try.prog 10 = some ⟨false, 1, 16, .string ⟨#[]⟩⟩ := by kernel_rfl
theorem zv_10 : ofV (.string ⟨#[]⟩) = .v (.string ⟨#[]⟩) := by kernel_rfl
theorem td_11 : tdat Try.prog 11 = some ⟨false, 1, 16, .string ⟨#[]⟩⟩ := by kernel_rfl
theorem zv_11 : ofV (.string ⟨#[]⟩) = .v (.string ⟨#[]⟩) := by kernel_rfl
theorem td_12 : tdat Try.prog 12 = some ⟨false, 1, 8, .int .u64 0⟩ := by kernel_rfl
theorem zv_12 : ofV (.int .u64 0) = .v (.int .u64 0) := by kernel_rfl
theorem td_13 : tdat Try.prog 13 = some ⟨true, 2, 24, .agg #[.string ⟨#[]⟩, .int .u64 0]⟩ := by kernel_rfl
theorem zv_13 : ofV (.agg #[.string ⟨#[]⟩, .int .u64 0]) = .ag [.v (.string ⟨#[]⟩), .v (.int .u64 0)] := by kernel_rfl
theorem tf_13 : tflds Try.prog 13 = some [(0, 1, false), (1, 1, false)] := by kernel_rfl
theorem td_14 : tdat Try.prog 14 = some ⟨true, 2, 24, .agg #[.string ⟨#[]⟩, .int .u64 0]⟩ := by kernel_rfl
theorem zv_14 : ofV (.agg #[.string ⟨#[]⟩, .int .u64 0]) = .ag [.v (.string ⟨#[]⟩), .v (.int .u64 0)] := by kernel_rfl
theorem tf_14 : tflds Try.prog 14 = some [(0, 1, false), (1, 1, false)] := by kernel_rfl
theorem nk_15 : nkT Try.prog 15 = some .nkp := by kernel_rfl
theorem td_15 : tdat Try.prog 15 = some ⟨false, 1, 8, .pointer none⟩ := by kernel_rfl
theorem zv_15 : ofV (.pointer none) = .v (.pointer none) := by kernel_rfl
theorem nk_16 : nkT Try.prog 16 = some .nkp := by kernel_rfl
theorem td_16 : tdat Try.prog 16 = some ⟨false, 1, 8, .pointer none⟩ := by kernel_rfl
theorem zv_16 : ofV (.pointer none) = .v (.pointer none) := by kernel_rfl
theorem nk_17 : nkT Try.prog 17 = some .nkp := by kernel_rfl
theorem td_17 : tdat Try.prog 17 = some ⟨false, 1, 8, .pointer none⟩ := by kernel_rfl
theorem zv_17 : ofV (.pointer none) = .v (.pointer none) := by kernel_rfl
theorem td_18 : tdat Try.prog 18 = some ⟨true, 1, 8, .agg #[.pointer none]⟩ := by kernel_rfl
theorem zv_18 : ofV (.agg #[.pointer none]) = .ag [.v (.pointer none)] := by kernel_rfl
theorem tf_18 : tflds Try.prog 18 = some [(0, 1, false)] := by kernel_rfl
theorem td_19 : tdat Try.prog 19 = some ⟨true, 1, 8, .agg #[.pointer none]⟩ := by kernel_rfl
theorem zv_19 : ofV (.agg #[.pointer none]) = .ag [.v (.pointer none)] := by kernel_rfl
theorem tf_19 : tflds Try.prog 19 = some [(0, 1, false)] := by kernel_rfl
theorem nk_20 : nkT Try.prog 20 = some .nki := by kernel_rfl
theorem td_20 : tdat Try.prog 20 = some ⟨false, 1, 16, .nilIface⟩ := by kernel_rfl
theorem zv_20 : ofV (.nilIface) = .v .nilIface := by kernel_rfl
theorem td_21 : tdat Try.prog 21 = some ⟨false, 1, 4, .int .i32 0⟩ := by kernel_rfl
theorem zv_21 : ofV (.int .i32 0) = .v (.int .i32 0) := by kernel_rfl
theorem td_22 : tdat Try.prog 22 = some ⟨false, 1, 24, .slice none 0 0⟩ := by kernel_rfl
theorem zv_22 : ofV (.slice none 0 0) = .sl .full [] := by kernel_rfl
theorem tel_22 : tel Try.prog 22 = some 9 := by kernel_rfl
theorem nk_23 : nkT Try.prog 23 = some .nkf := by kernel_rfl
theorem nk_24 : nkT Try.prog 24 = some .nkf := by kernel_rfl
theorem nk_25 : nkT Try.prog 25 = some .nkf := by kernel_rfl
theorem nk_26 : nkT Try.prog 26 = some .nkf := by kernel_rfl
theorem td_27 : tdat Try.prog 27 = some ⟨false, 1, 24, .slice none 0 0⟩ := by kernel_rfl
theorem zv_27 : ofV (.slice none 0 0) = .sl .full [] := by kernel_rfl
theorem tel_27 : tel Try.prog 27 = some 5 := by kernel_rfl
theorem nk_28 : nkT Try.prog 28 = some .nkf := by kernel_rfl
theorem td_29 : tdat Try.prog 29 = some ⟨false, 1, 24, .slice none 0 0⟩ := by kernel_rfl
theorem zv_29 : ofV (.slice none 0 0) = .sl .full [] := by kernel_rfl
theorem tel_29 : tel Try.prog 29 = some 38 := by kernel_rfl
theorem nk_30 : nkT Try.prog 30 = some .nki := by kernel_rfl
theorem td_30 : tdat Try.prog 30 = some ⟨false, 1, 16, .nilIface⟩ := by kernel_rfl
theorem zv_30 : ofV (.nilIface) = .v .nilIface := by kernel_rfl
theorem nk_31 : nkT Try.prog 31 = some .nki := by kernel_rfl
theorem td_31 : tdat Try.prog 31 = some ⟨false, 1, 16, .nilIface⟩ := by kernel_rfl
theorem zv_31 : ofV (.nilIface) = .v .nilIface := by kernel_rfl
theorem nk_33 : nkT Try.prog 33 = some .nkf := by kernel_rfl
theorem nk_34 : nkT Try.prog 34 = some .nkf := by kernel_rfl
theorem td_35 : tdat Try.prog 35 = some ⟨true, 2, 16, .agg #[.int .i64 0, .int .i64 0]⟩ := by kernel_rfl
theorem zv_35 : ofV (.agg #[.int .i64 0, .int .i64 0]) = .ag [.v (.int .i64 0), .v (.int .i64 0)] := by kernel_rfl
theorem tf_35 : tflds Try.prog 35 = some [(0, 1, false), (1, 1, false)] := by kernel_rfl
theorem fl_35 : flat1 Try.prog 35 = some [.ski, .ski] := by kernel_rfl
theorem td_36 : tdat Try.prog 36 = some ⟨true, 2, 16, .agg #[.int .i64 0, .int .i64 0]⟩ := by kernel_rfl
theorem zv_36 : ofV (.agg #[.int .i64 0, .int .i64 0]) = .ag [.v (.int .i64 0), .v (.int .i64 0)] := by kernel_rfl
theorem tf_36 : tflds Try.prog 36 = some [(0, 1, false), (1, 1, false)] := by kernel_rfl
theorem fl_36 : flat1 Try.prog 36 = some [.ski, .ski] := by kernel_rfl
theorem td_37 : tdat Try.prog 37 = some ⟨true, 5, 48, .agg #[.int .u8 0, .string ⟨#[]⟩, .int .i32 0, .int .i64 0, .int .i64 0]⟩ := by kernel_rfl
theorem zv_37 : ofV (.agg #[.int .u8 0, .string ⟨#[]⟩, .int .i32 0, .int .i64 0, .int .i64 0]) = .ag [.v (.int .u8 0), .v (.string ⟨#[]⟩), .v (.int .i32 0), .v (.int .i64 0), .v (.int .i64 0)] := by kernel_rfl
theorem tf_37 : tflds Try.prog 37 = some [(0, 1, false), (1, 1, false), (2, 1, false), (3, 2, true)] := by kernel_rfl
theorem td_38 : tdat Try.prog 38 = some ⟨true, 5, 48, .agg #[.int .u8 0, .string ⟨#[]⟩, .int .i32 0, .int .i64 0, .int .i64 0]⟩ := by kernel_rfl
theorem zv_38 : ofV (.agg #[.int .u8 0, .string ⟨#[]⟩, .int .i32 0, .int .i64 0, .int .i64 0]) = .ag [.v (.int .u8 0), .v (.string ⟨#[]⟩), .v (.int .i32 0), .v (.int .i64 0), .v (.int .i64 0)] := by kernel_rfl
theorem tf_38 : tflds Try.prog 38 = some [(0, 1, false), (1, 1, false), (2, 1, false), (3, 2, true)] := by kernel_rfl
theorem nk_39 : nkT Try.prog 39 = some .nkf := by kernel_rfl
theorem nk_40 : nkT Try.prog 40 = some .nkf := by kernel_rfl
theorem nk_41 : nkT Try.prog 41 = some .nkf := by kernel_rfl
theorem nk_42 : nkT Try.prog 42 = some .nkf := by kernel_rfl
theorem td_43 : tdat Try.prog 43 = some ⟨false, 1, 8, .int .i64 0⟩ := by kernel_rfl
theorem zv_43 : ofV (.int .i64 0) = .v (.int .i64 0) := by kernel_rfl
theorem nk_44 : nkT Try.prog 44 = some .nkp := by kernel_rfl
theorem td_44 : tdat Try.prog 44 = some ⟨false, 1, 8, .pointer none⟩ := by kernel_rfl
theorem zv_44 : ofV (.pointer none) = .v (.pointer none) := by kernel_rfl
theorem td_45 : tdat Try.prog 45 = some ⟨true, 5, 64, .agg #[.string ⟨#[]⟩, .int .i64 0, .int .i64 0, .int .i64 0, .slice none 0 0]⟩ := by kernel_rfl
theorem zv_45 : ofV (.agg #[.string ⟨#[]⟩, .int .i64 0, .int .i64 0, .int .i64 0, .slice none 0 0]) = .ag [.v (.string ⟨#[]⟩), .v (.int .i64 0), .v (.int .i64 0), .v (.int .i64 0), .sl .full []] := by kernel_rfl
theorem tf_45 : tflds Try.prog 45 = some [(0, 1, false), (1, 1, false), (2, 1, false), (3, 1, false), (4, 1, false)] := by kernel_rfl
theorem td_46 : tdat Try.prog 46 = some ⟨true, 5, 64, .agg #[.string ⟨#[]⟩, .int .i64 0, .int .i64 0, .int .i64 0, .slice none 0 0]⟩ := by kernel_rfl
theorem zv_46 : ofV (.agg #[.string ⟨#[]⟩, .int .i64 0, .int .i64 0, .int .i64 0, .slice none 0 0]) = .ag [.v (.string ⟨#[]⟩), .v (.int .i64 0), .v (.int .i64 0), .v (.int .i64 0), .sl .full []] := by kernel_rfl
theorem tf_46 : tflds Try.prog 46 = some [(0, 1, false), (1, 1, false), (2, 1, false), (3, 1, false), (4, 1, false)] := by kernel_rfl
theorem nk_47 : nkT Try.prog 47 = some .nkf := by kernel_rfl
theorem nk_48 : nkT Try.prog 48 = some .nkf := by kernel_rfl
theorem nk_49 : nkT Try.prog 49 = some .nkp := by kernel_rfl
theorem td_49 : tdat Try.prog 49 = some ⟨false, 1, 8, .pointer none⟩ := by kernel_rfl
theorem zv_49 : ofV (.pointer none) = .v (.pointer none) := by kernel_rfl
theorem td_50 : tdat Try.prog 50 = some ⟨true, 2, 32, .agg #[.pointer none, .slice none 0 0]⟩ := by kernel_rfl
theorem zv_50 : ofV (.agg #[.pointer none, .slice none 0 0]) = .ag [.v (.pointer none), .sl .full []] := by kernel_rfl
theorem tf_50 : tflds Try.prog 50 = some [(0, 1, false), (1, 1, false)] := by kernel_rfl
theorem td_51 : tdat Try.prog 51 = some ⟨true, 2, 32, .agg #[.pointer none, .slice none 0 0]⟩ := by kernel_rfl
theorem zv_51 : ofV (.agg #[.pointer none, .slice none 0 0]) = .ag [.v (.pointer none), .sl .full []] := by kernel_rfl
theorem tf_51 : tflds Try.prog 51 = some [(0, 1, false), (1, 1, false)] := by kernel_rfl
theorem nk_52 : nkT Try.prog 52 = some .nkf := by kernel_rfl
theorem nk_54 : nkT Try.prog 54 = some .nkf := by kernel_rfl
theorem nk_55 : nkT Try.prog 55 = some .nkf := by kernel_rfl
theorem nk_56 : nkT Try.prog 56 = some .nkf := by kernel_rfl
theorem nk_57 : nkT Try.prog 57 = some .nkp := by kernel_rfl
theorem td_57 : tdat Try.prog 57 = some ⟨false, 1, 8, .pointer none⟩ := by kernel_rfl
theorem zv_57 : ofV (.pointer none) = .v (.pointer none) := by kernel_rfl
theorem td_58 : tdat Try.prog 58 = some ⟨true, 5, 56, .agg #[.int .i64 0, .int .i64 0, .string ⟨#[]⟩, .bool false, .nilIface]⟩ := by kernel_rfl
theorem zv_58 : ofV (.agg #[.int .i64 0, .int .i64 0, .string ⟨#[]⟩, .bool false, .nilIface]) = .ag [.v (.int .i64 0), .v (.int .i64 0), .v (.string ⟨#[]⟩), .v (.bool false), .v .nilIface] := by kernel_rfl
theorem tf_58 : tflds Try.prog 58 = some [(0, 2, true), (2, 1, false), (3, 1, false), (4, 1, false)] := by kernel_rfl
theorem td_59 : tdat Try.prog 59 = some ⟨true, 5, 56, .agg #[.int .i64 0, .int .i64 0, .string ⟨#[]⟩, .bool false, .nilIface]⟩ := by kernel_rfl
theorem zv_59 : ofV (.agg #[.int .i64 0, .int .i64 0, .string ⟨#[]⟩, .bool false, .nilIface]) = .ag [.v (.int .i64 0), .v (.int .i64 0), .v (.string ⟨#[]⟩), .v (.bool false), .v .nilIface] := by kernel_rfl
theorem tf_59 : tflds Try.prog 59 = some [(0, 2, true), (2, 1, false), (3, 1, false), (4, 1, false)] := by kernel_rfl
theorem nk_60 : nkT Try.prog 60 = some .nkf := by kernel_rfl
theorem nk_61 : nkT Try.prog 61 = some .nkp := by kernel_rfl
theorem td_61 : tdat Try.prog 61 = some ⟨false, 1, 8, .pointer none⟩ := by kernel_rfl
theorem zv_61 : ofV (.pointer none) = .v (.pointer none) := by kernel_rfl
theorem nk_62 : nkT Try.prog 62 = some .nkf := by kernel_rfl
theorem td_63 : tdat Try.prog 63 = some ⟨true, 4, 64, .agg #[.string ⟨#[]⟩, .string ⟨#[]⟩, .string ⟨#[]⟩, .string ⟨#[]⟩]⟩ := by kernel_rfl
theorem zv_63 : ofV (.agg #[.string ⟨#[]⟩, .string ⟨#[]⟩, .string ⟨#[]⟩, .string ⟨#[]⟩]) = .ag [.v (.string ⟨#[]⟩), .v (.string ⟨#[]⟩), .v (.string ⟨#[]⟩), .v (.string ⟨#[]⟩)] := by kernel_rfl
theorem tf_63 : tflds Try.prog 63 = none := by kernel_rfl
theorem tel_63 : tel Try.prog 63 = none := by kernel_rfl
theorem ta_63 : tarr Try.prog 63 = some (4, 9) := by kernel_rfl
theorem nk_64 : nkT Try.prog 64 = some .nkf := by kernel_rfl
theorem td_65 : tdat Try.prog 65 = some ⟨false, 1, 8, .pointer none⟩ := by kernel_rfl
theorem zv_65 : ofV (.pointer none) = .v (.pointer none) := by kernel_rfl
theorem nk_66 : nkT Try.prog 66 = some .nkf := by kernel_rfl
theorem nk_67 : nkT Try.prog 67 = some .nkf := by kernel_rfl
theorem td_68 : tdat Try.prog 68 = some ⟨false, 1, 8, .int .u64 0⟩ := by kernel_rfl
theorem zv_68 : ofV (.int .u64 0) = .v (.int .u64 0) := by kernel_rfl
theorem td_69 : tdat Try.prog 69 = some ⟨false, 1, 4, .int .u32 0⟩ := by kernel_rfl
theorem zv_69 : ofV (.int .u32 0) = .v (.int .u32 0) := by kernel_rfl
theorem nk_71 : nkT Try.prog 71 = some .nkf := by kernel_rfl
theorem td_72 : tdat Try.prog 72 = some ⟨true, 4, 40, .agg #[.pointer none, .pointer none, .pointer none, .string ⟨#[]⟩]⟩ := by kernel_rfl
theorem zv_72 : ofV (.agg #[.pointer none, .pointer none, .pointer none, .string ⟨#[]⟩]) = .ag [.v (.pointer none), .v (.pointer none), .v (.pointer none), .v (.string ⟨#[]⟩)] := by kernel_rfl
theorem tf_72 : tflds Try.prog 72 = some [(0, 1, false), (1, 1, false), (2, 1, false), (3, 1, false)] := by kernel_rfl
theorem td_73 : tdat Try.prog 73 = some ⟨true, 4, 40, .agg #[.pointer none, .pointer none, .pointer none, .string ⟨#[]⟩]⟩ := by kernel_rfl
theorem zv_73 : ofV (.agg #[.pointer none, .pointer none, .pointer none, .string ⟨#[]⟩]) = .ag [.v (.pointer none), .v (.pointer none), .v (.pointer none), .v (.string ⟨#[]⟩)] := by kernel_rfl
theorem tf_73 : tflds Try.prog 73 = some [(0, 1, false), (1, 1, false), (2, 1, false), (3, 1, false)] := by kernel_rfl
theorem td_74 : tdat Try.prog 74 = some ⟨true, 0, 0, .agg #[]⟩ := by kernel_rfl
theorem zv_74 : ofV (.agg #[]) = .ag [] := by kernel_rfl
theorem tf_74 : tflds Try.prog 74 = none := by kernel_rfl
theorem tel_74 : tel Try.prog 74 = none := by kernel_rfl
theorem ta_74 : tarr Try.prog 74 = some (0, 16) := by kernel_rfl
theorem td_75 : tdat Try.prog 75 = some ⟨true, 0, 0, .agg #[]⟩ := by kernel_rfl
theorem zv_75 : ofV (.agg #[]) = .ag [] := by kernel_rfl
theorem tf_75 : tflds Try.prog 75 = some [(0, 0, true)] := by kernel_rfl
theorem td_76 : tdat Try.prog 76 = some ⟨true, 0, 0, .agg #[]⟩ := by kernel_rfl
theorem zv_76 : ofV (.agg #[]) = .ag [] := by kernel_rfl
theorem tf_76 : tflds Try.prog 76 = some [(0, 0, true)] := by kernel_rfl
theorem nk_77 : nkT Try.prog 77 = some .nkf := by kernel_rfl
theorem td_78 : tdat Try.prog 78 = some ⟨false, 1, 1, .int .u8 0⟩ := by kernel_rfl
theorem zv_78 : ofV (.int .u8 0) = .v (.int .u8 0) := by kernel_rfl
theorem td_79 : tdat Try.prog 79 = some ⟨false, 1, 1, .int .u8 0⟩ := by kernel_rfl
theorem zv_79 : ofV (.int .u8 0) = .v (.int .u8 0) := by kernel_rfl
theorem nk_80 : nkT Try.prog 80 = some .nkf := by kernel_rfl
theorem td_81 : tdat Try.prog 81 = some ⟨false, 1, 4, .int .i32 0⟩ := by kernel_rfl
theorem zv_81 : ofV (.int .i32 0) = .v (.int .i32 0) := by kernel_rfl
theorem td_82 : tdat Try.prog 82 = some ⟨false, 1, 4, .int .i32 0⟩ := by kernel_rfl
theorem zv_82 : ofV (.int .i32 0) = .v (.int .i32 0) := by kernel_rfl
theorem td_83 : tdat Try.prog 83 = some ⟨true, 11, 48, .agg #[.int .u64 0, .int .u64 0, .int .u32 0, .int .u8 0, .int .u8 0, .int .u8 0, .int .u8 0, .nilFunc, .pointer none, .int .i32 0, .int .i32 0]⟩ := by kernel_rfl
theorem zv_83 : ofV (.agg #[.int .u64 0, .int .u64 0, .int .u32 0, .int .u8 0, .int .u8 0, .int .u8 0, .int .u8 0, .nilFunc, .pointer none, .int .i32 0, .int .i32 0]) = .ag [.v (.int .u64 0), .v (.int .u64 0), .v (.int .u32 0), .v (.int .u8 0), .v (.int .u8 0), .v (.int .u8 0), .v (.int .u8 0), .v .nilFunc, .v (.pointer none), .v (.int .i32 0), .v (.int .i32 0)] := by kernel_rfl
theorem tf_83 : tflds Try.prog 83 = some [(0, 1, false), (1, 1, false), (2, 1, false), (3, 1, false), (4, 1, false), (5, 1, false), (6, 1, false), (7, 1, false), (8, 1, false), (9, 1, false), (10, 1, false)] := by kernel_rfl
theorem td_84 : tdat Try.prog 84 = some ⟨true, 11, 48, .agg #[.int .u64 0, .int .u64 0, .int .u32 0, .int .u8 0, .int .u8 0, .int .u8 0, .int .u8 0, .nilFunc, .pointer none, .int .i32 0, .int .i32 0]⟩ := by kernel_rfl
theorem zv_84 : ofV (.agg #[.int .u64 0, .int .u64 0, .int .u32 0, .int .u8 0, .int .u8 0, .int .u8 0, .int .u8 0, .nilFunc, .pointer none, .int .i32 0, .int .i32 0]) = .ag [.v (.int .u64 0), .v (.int .u64 0), .v (.int .u32 0), .v (.int .u8 0), .v (.int .u8 0), .v (.int .u8 0), .v (.int .u8 0), .v .nilFunc, .v (.pointer none), .v (.int .i32 0), .v (.int .i32 0)] := by kernel_rfl
theorem tf_84 : tflds Try.prog 84 = some [(0, 1, false), (1, 1, false), (2, 1, false), (3, 1, false), (4, 1, false), (5, 1, false), (6, 1, false), (7, 1, false), (8, 1, false), (9, 1, false), (10, 1, false)] := by kernel_rfl
end Go.Proofs.Ytijdhfjdnndkmaa
