/-
  Closed facts on the types of this seat.
-/
import Derived.Test.YtofnlkogpljmmaaDoorRows
import Derived.Test.YtofnlkogpljmmaaDoorAbFn
import Derived.KernelRfl
namespace Go.Proofs.YtofnlkogpljmmaaDoor
open Go Go.RowKit
theorem ok_mix : Tryd.prog.follows .mixedOrders = true := by kernel_rfl
theorem nk_1 : nkT Tryd.prog 1 = some .nkf := by kernel_rfl
theorem td_2 : tdat Tryd.prog 2 = some ⟨false, 1, 8, .int .i64 0⟩ := by kernel_rfl
theorem zv_2 : ofV (.int .i64 0) = .v (.int .i64 0) := by kernel_rfl
theorem td_3 : tdat Tryd.prog 3 = some ⟨false, 1, 8, .int .i64 0⟩ := by kernel_rfl
theorem zv_3 : ofV (.int .i64 0) = .v (.int .i64 0) := by kernel_rfl
theorem td_4 : tdat Tryd.prog 4 = some ⟨false, 1, 1, .bool false⟩ := by kernel_rfl
theorem zv_4 : ofV (.bool false) = .v (.bool false) := by kernel_rfl
theorem td_5 : tdat Tryd.prog 5 = some ⟨false, 1, 1, .int .u8 0⟩ := by kernel_rfl
theorem zv_5 : ofV (.int .u8 0) = .v (.int .u8 0) := by kernel_rfl
theorem td_6 : tdat Tryd.prog 6 = some ⟨false, 1, 1, .int .u8 0⟩ := by kernel_rfl
theorem zv_6 : ofV (.int .u8 0) = .v (.int .u8 0) := by kernel_rfl
theorem td_7 : tdat Tryd.prog 7 = some ⟨true, 4, 24, .agg #[.int .i64 0, .int .i64 0, .bool false, .int .u8 0]⟩ := by kernel_rfl
theorem zv_7 : ofV (.agg #[.int .i64 0, .int .i64 0, .bool false, .int .u8 0]) = .ag [.v (.int .i64 0), .v (.int .i64 0), .v (.bool false), .v (.int .u8 0)] := by kernel_rfl
theorem tf_7 : tflds Tryd.prog 7 = some [(0, 1, false), (1, 1, false), (2, 1, false), (3, 1, false)] := by kernel_rfl
theorem td_8 : tdat Tryd.prog 8 = some ⟨true, 4, 24, .agg #[.int .i64 0, .int .i64 0, .bool false, .int .u8 0]⟩ := by kernel_rfl
theorem zv_8 : ofV (.agg #[.int .i64 0, .int .i64 0, .bool false, .int .u8 0]) = .ag [.v (.int .i64 0), .v (.int .i64 0), .v (.bool false), .v (.int .u8 0)] := by kernel_rfl
theorem tf_8 : tflds Tryd.prog 8 = some [(0, 1, false), (1, 1, false), (2, 1, false), (3, 1, false)] := by kernel_rfl
theorem td_9 : tdat Tryd.prog 9 = some ⟨false, 1, 16, .string ⟨#[]⟩⟩ := by kernel_rfl
theorem zv_9 : ofV (.string ⟨#[]⟩) = .v (.string ⟨#[]⟩) := by kernel_rfl
theorem td_10 : tdat Tryd.prog 10 = some ⟨false, 1, 16, .string ⟨#[]⟩⟩ := by kernel_rfl
theorem zv_10 : ofV (.string ⟨#[]⟩) = .v (.string ⟨#[]⟩) := by kernel_rfl
theorem td_11 : tdat Tryd.prog 11 = some ⟨false, 1, 16, .string ⟨#[]⟩⟩ := by kernel_rfl
theorem zv_11 : ofV (.string ⟨#[]⟩) = .v (.string ⟨#[]⟩) := by kernel_rfl
theorem td_12 : tdat Tryd.prog 12 = some ⟨false, 1, 8, .int .u64 0⟩ := by kernel_rfl
theorem zv_12 : ofV (.int .u64 0) = .v (.int .u64 0) := by kernel_rfl
theorem td_13 : tdat Tryd.prog 13 = some ⟨true, 2, 24, .agg #[.string ⟨#[]⟩, .int .u64 0]⟩ := by kernel_rfl
theorem zv_13 : ofV (.agg #[.string ⟨#[]⟩, .int .u64 0]) = .ag [.v (.string ⟨#[]⟩), .v (.int .u64 0)] := by kernel_rfl
theorem tf_13 : tflds Tryd.prog 13 = some [(0, 1, false), (1, 1, false)] := by kernel_rfl
theorem td_14 : tdat Tryd.prog 14 = some ⟨true, 2, 24, .agg #[.string ⟨#[]⟩, .int .u64 0]⟩ := by kernel_rfl
theorem zv_14 : ofV (.agg #[.string ⟨#[]⟩, .int .u64 0]) = .ag [.v (.string ⟨#[]⟩), .v (.int .u64 0)] := by kernel_rfl
theorem tf_14 : tflds Tryd.prog 14 = some [(0, 1, false), (1, 1, false)] := by kernel_rfl
theorem nk_15 : nkT Tryd.prog 15 = some .nkp := by kernel_rfl
theorem td_15 : tdat Tryd.prog 15 = some ⟨false, 1, 8, .pointer none⟩ := by kernel_rfl
theorem zv_15 : ofV (.pointer none) = .v (.pointer none) := by kernel_rfl
theorem nk_16 : nkT Tryd.prog 16 = some .nkp := by kernel_rfl
theorem td_16 : tdat Tryd.prog 16 = some ⟨false, 1, 8, .pointer none⟩ := by kernel_rfl
theorem zv_16 : ofV (.pointer none) = .v (.pointer none) := by kernel_rfl
theorem nk_17 : nkT Tryd.prog 17 = some .nkp := by kernel_rfl
theorem td_17 : tdat Tryd.prog 17 = some ⟨false, 1, 8, .pointer none⟩ := by kernel_rfl
theorem zv_17 : ofV (.pointer none) = .v (.pointer none) := by kernel_rfl
theorem td_18 : tdat Tryd.prog 18 = some ⟨true, 1, 8, .agg #[.pointer none]⟩ := by kernel_rfl
theorem zv_18 : ofV (.agg #[.pointer none]) = .ag [.v (.pointer none)] := by kernel_rfl
theorem tf_18 : tflds Tryd.prog 18 = some [(0, 1, false)] := by kernel_rfl
theorem td_19 : tdat Tryd.prog 19 = some ⟨true, 1, 8, .agg #[.pointer none]⟩ := by kernel_rfl
theorem zv_19 : ofV (.agg #[.pointer none]) = .ag [.v (.pointer none)] := by kernel_rfl
theorem tf_19 : tflds Tryd.prog 19 = some [(0, 1, false)] := by kernel_rfl
theorem nk_20 : nkT Tryd.prog 20 = some .nki := by kernel_rfl
theorem td_20 : tdat Tryd.prog 20 = some ⟨false, 1, 16, .nilIface⟩ := by kernel_rfl
theorem zv_20 : ofV (.nilIface) = .v .nilIface := by kernel_rfl
theorem td_21 : tdat Tryd.prog 21 = some ⟨false, 1, 4, .int .i32 0⟩ := by kernel_rfl
theorem zv_21 : ofV (.int .i32 0) = .v (.int .i32 0) := by kernel_rfl
theorem nk_22 : nkT Tryd.prog 22 = some .nkf := by kernel_rfl
theorem nk_23 : nkT Tryd.prog 23 = some .nki := by kernel_rfl
theorem td_23 : tdat Tryd.prog 23 = some ⟨false, 1, 16, .nilIface⟩ := by kernel_rfl
theorem zv_23 : ofV (.nilIface) = .v .nilIface := by kernel_rfl
theorem nk_24 : nkT Tryd.prog 24 = some .nki := by kernel_rfl
theorem td_24 : tdat Tryd.prog 24 = some ⟨false, 1, 16, .nilIface⟩ := by kernel_rfl
theorem zv_24 : ofV (.nilIface) = .v .nilIface := by kernel_rfl
theorem nk_25 : nkT Tryd.prog 25 = some .nkf := by kernel_rfl
theorem td_26 : tdat Tryd.prog 26 = some ⟨false, 1, 8, .int .i64 0⟩ := by kernel_rfl
theorem zv_26 : ofV (.int .i64 0) = .v (.int .i64 0) := by kernel_rfl
theorem nk_27 : nkT Tryd.prog 27 = some .nkf := by kernel_rfl
theorem nk_28 : nkT Tryd.prog 28 = some .nkf := by kernel_rfl
theorem td_29 : tdat Tryd.prog 29 = some ⟨true, 2, 16, .agg #[.int .i64 0, .int .i64 0]⟩ := by kernel_rfl
theorem zv_29 : ofV (.agg #[.int .i64 0, .int .i64 0]) = .ag [.v (.int .i64 0), .v (.int .i64 0)] := by kernel_rfl
theorem tf_29 : tflds Tryd.prog 29 = some [(0, 1, false), (1, 1, false)] := by kernel_rfl
theorem fl_29 : flat1 Tryd.prog 29 = some [.ski, .ski] := by kernel_rfl
theorem td_30 : tdat Tryd.prog 30 = some ⟨true, 2, 16, .agg #[.int .i64 0, .int .i64 0]⟩ := by kernel_rfl
theorem zv_30 : ofV (.agg #[.int .i64 0, .int .i64 0]) = .ag [.v (.int .i64 0), .v (.int .i64 0)] := by kernel_rfl
theorem tf_30 : tflds Tryd.prog 30 = some [(0, 1, false), (1, 1, false)] := by kernel_rfl
theorem fl_30 : flat1 Tryd.prog 30 = some [.ski, .ski] := by kernel_rfl
theorem nk_31 : nkT Tryd.prog 31 = some .nkf := by kernel_rfl
theorem nk_32 : nkT Tryd.prog 32 = some .nkf := by kernel_rfl
theorem nk_33 : nkT Tryd.prog 33 = some .nkf := by kernel_rfl
theorem nk_34 : nkT Tryd.prog 34 = some .nkf := by kernel_rfl
theorem nk_35 : nkT Tryd.prog 35 = some .nkp := by kernel_rfl
theorem td_35 : tdat Tryd.prog 35 = some ⟨false, 1, 8, .pointer none⟩ := by kernel_rfl
theorem zv_35 : ofV (.pointer none) = .v (.pointer none) := by kernel_rfl
theorem td_36 : tdat Tryd.prog 36 = some ⟨true, 5, 56, .agg #[.int .i64 0, .int .i64 0, .string ⟨#[]⟩, .bool false, .nilIface]⟩ := by kernel_rfl
theorem zv_36 : ofV (.agg #[.int .i64 0, .int .i64 0, .string ⟨#[]⟩, .bool false, .nilIface]) = .ag [.v (.int .i64 0), .v (.int .i64 0), .v (.string ⟨#[]⟩), .v (.bool false), .v .nilIface] := by kernel_rfl
theorem tf_36 : tflds Tryd.prog 36 = some [(0, 2, true), (2, 1, false), (3, 1, false), (4, 1, false)] := by kernel_rfl
theorem td_37 : tdat Tryd.prog 37 = some ⟨true, 5, 56, .agg #[.int .i64 0, .int .i64 0, .string ⟨#[]⟩, .bool false, .nilIface]⟩ := by kernel_rfl
theorem zv_37 : ofV (.agg #[.int .i64 0, .int .i64 0, .string ⟨#[]⟩, .bool false, .nilIface]) = .ag [.v (.int .i64 0), .v (.int .i64 0), .v (.string ⟨#[]⟩), .v (.bool false), .v .nilIface] := by kernel_rfl
theorem tf_37 : tflds Tryd.prog 37 = some [(0, 2, true), (2, 1, false), (3, 1, false), (4, 1, false)] := by kernel_rfl
theorem nk_38 : nkT Tryd.prog 38 = some .nkf := by kernel_rfl
theorem td_39 : tdat Tryd.prog 39 = some ⟨false, 1, 24, .slice none 0 0⟩ := by kernel_rfl
theorem zv_39 : ofV (.slice none 0 0) = .sl .full [] := by kernel_rfl
theorem tel_39 : tel Tryd.prog 39 = some 9 := by kernel_rfl
theorem nk_40 : nkT Tryd.prog 40 = some .nkf := by kernel_rfl
theorem nk_41 : nkT Tryd.prog 41 = some .nkf := by kernel_rfl
theorem nk_43 : nkT Tryd.prog 43 = some .nkf := by kernel_rfl
theorem nk_44 : nkT Tryd.prog 44 = some .nkf := by kernel_rfl
theorem nk_45 : nkT Tryd.prog 45 = some .nkf := by kernel_rfl
theorem nk_46 : nkT Tryd.prog 46 = some .nkf := by kernel_rfl
theorem nk_47 : nkT Tryd.prog 47 = some .nkf := by kernel_rfl
theorem td_48 : tdat Tryd.prog 48 = some ⟨false, 1, 24, .slice none 0 0⟩ := by kernel_rfl
theorem zv_48 : ofV (.slice none 0 0) = .sl .full [] := by kernel_rfl
theorem tel_48 : tel Tryd.prog 48 = some 3 := by kernel_rfl
theorem td_49 : tdat Tryd.prog 49 = some ⟨false, 1, 24, .slice none 0 0⟩ := by kernel_rfl
theorem zv_49 : ofV (.slice none 0 0) = .sl .full [] := by kernel_rfl
theorem tel_49 : tel Tryd.prog 49 = some 5 := by kernel_rfl
theorem td_50 : tdat Tryd.prog 50 = some ⟨false, 1, 24, .slice none 0 0⟩ := by kernel_rfl
theorem zv_50 : ofV (.slice none 0 0) = .sl .full [] := by kernel_rfl
theorem tel_50 : tel Tryd.prog 50 = some 24 := by kernel_rfl
theorem nk_51 : nkT Tryd.prog 51 = some .nkf := by kernel_rfl
theorem nk_52 : nkT Tryd.prog 52 = some .nkf := by kernel_rfl
theorem nk_53 : nkT Tryd.prog 53 = some .nkf := by kernel_rfl
theorem nk_54 : nkT Tryd.prog 54 = some .nkp := by kernel_rfl
theorem td_54 : tdat Tryd.prog 54 = some ⟨false, 1, 8, .pointer none⟩ := by kernel_rfl
theorem zv_54 : ofV (.pointer none) = .v (.pointer none) := by kernel_rfl
theorem td_55 : tdat Tryd.prog 55 = some ⟨true, 13, 208, .agg #[.string ⟨#[]⟩, .string ⟨#[]⟩, .string ⟨#[]⟩, .string ⟨#[]⟩, .string ⟨#[]⟩, .string ⟨#[]⟩, .string ⟨#[]⟩, .string ⟨#[]⟩, .string ⟨#[]⟩, .string ⟨#[]⟩, .string ⟨#[]⟩, .string ⟨#[]⟩, .string ⟨#[]⟩]⟩ := by kernel_rfl
theorem zv_55 : ofV (.agg #[.string ⟨#[]⟩, .string ⟨#[]⟩, .string ⟨#[]⟩, .string ⟨#[]⟩, .string ⟨#[]⟩, .string ⟨#[]⟩, .string ⟨#[]⟩, .string ⟨#[]⟩, .string ⟨#[]⟩, .string ⟨#[]⟩, .string ⟨#[]⟩, .string ⟨#[]⟩, .string ⟨#[]⟩]) = .ag [.v (.string ⟨#[]⟩), .v (.string ⟨#[]⟩), .v (.string ⟨#[]⟩), .v (.string ⟨#[]⟩), .v (.string ⟨#[]⟩), .v (.string ⟨#[]⟩), .v (.string ⟨#[]⟩), .v (.string ⟨#[]⟩), .v (.string ⟨#[]⟩), .v (.string ⟨#[]⟩), .v (.string ⟨#[]⟩), .v (.string ⟨#[]⟩), .v (.string ⟨#[]⟩)] := by kernel_rfl
theorem tf_55 : tflds Tryd.prog 55 = none := by kernel_rfl
theorem tel_55 : tel Tryd.prog 55 = none := by kernel_rfl
theorem ta_55 : tarr Tryd.prog 55 = some (13, 9) := by kernel_rfl
theorem nk_56 : nkT Tryd.prog 56 = some .nkf := by kernel_rfl
theorem td_57 : tdat Tryd.prog 57 = some ⟨false, 1, 8, .int .u64 0⟩ := by kernel_rfl
theorem zv_57 : ofV (.int .u64 0) = .v (.int .u64 0) := by kernel_rfl
theorem nk_58 : nkT Tryd.prog 58 = some .nkf := by kernel_rfl
theorem nk_59 : nkT Tryd.prog 59 = some .nki := by kernel_rfl
theorem td_59 : tdat Tryd.prog 59 = some ⟨false, 1, 16, .nilIface⟩ := by kernel_rfl
theorem zv_59 : ofV (.nilIface) = .v .nilIface := by kernel_rfl
theorem nk_60 : nkT Tryd.prog 60 = some .nki := by kernel_rfl
theorem td_60 : tdat Tryd.prog 60 = some ⟨false, 1, 16, .nilIface⟩ := by kernel_rfl
theorem zv_60 : ofV (.nilIface) = .v .nilIface := by kernel_rfl
theorem nk_61 : nkT Tryd.prog 61 = some .nkf := by kernel_rfl
theorem nk_62 : nkT Tryd.prog 62 = some .nkf := by kernel_rfl
theorem td_63 : tdat Tryd.prog 63 = some ⟨false, 1, 8, .pointer none⟩ := by kernel_rfl
theorem zv_63 : ofV (.pointer none) = .v (.pointer none) := by kernel_rfl
theorem td_64 : tdat Tryd.prog 64 = some ⟨false, 1, 8, .int .u64 0⟩ := by kernel_rfl
theorem zv_64 : ofV (.int .u64 0) = .v (.int .u64 0) := by kernel_rfl
theorem td_65 : tdat Tryd.prog 65 = some ⟨true, 3, 24, .agg #[.pointer none, .pointer none, .int .u64 0]⟩ := by kernel_rfl
theorem zv_65 : ofV (.agg #[.pointer none, .pointer none, .int .u64 0]) = .ag [.v (.pointer none), .v (.pointer none), .v (.int .u64 0)] := by kernel_rfl
theorem tf_65 : tflds Tryd.prog 65 = some [(0, 1, false), (1, 1, false), (2, 1, false)] := by kernel_rfl
theorem td_66 : tdat Tryd.prog 66 = some ⟨true, 3, 24, .agg #[.pointer none, .pointer none, .int .u64 0]⟩ := by kernel_rfl
theorem zv_66 : ofV (.agg #[.pointer none, .pointer none, .int .u64 0]) = .ag [.v (.pointer none), .v (.pointer none), .v (.int .u64 0)] := by kernel_rfl
theorem tf_66 : tflds Tryd.prog 66 = some [(0, 1, false), (1, 1, false), (2, 1, false)] := by kernel_rfl
theorem nk_67 : nkT Tryd.prog 67 = some .nkf := by kernel_rfl
theorem nk_68 : nkT Tryd.prog 68 = some .nkf := by kernel_rfl
theorem td_69 : tdat Tryd.prog 69 = some ⟨false, 1, 1, .int .u8 0⟩ := by kernel_rfl
theorem zv_69 : ofV (.int .u8 0) = .v (.int .u8 0) := by kernel_rfl
theorem nk_70 : nkT Tryd.prog 70 = some .nkf := by kernel_rfl
theorem nk_71 : nkT Tryd.prog 71 = some .nkf := by kernel_rfl
theorem nk_72 : nkT Tryd.prog 72 = some .nkf := by kernel_rfl
theorem td_73 : tdat Tryd.prog 73 = some ⟨true, 1, 8, .agg #[.pointer none]⟩ := by kernel_rfl
theorem zv_73 : ofV (.agg #[.pointer none]) = .ag [.v (.pointer none)] := by kernel_rfl
theorem tf_73 : tflds Tryd.prog 73 = some [(0, 1, false)] := by kernel_rfl
theorem td_74 : tdat Tryd.prog 74 = some ⟨true, 1, 8, .agg #[.pointer none]⟩ := by kernel_rfl
theorem zv_74 : ofV (.agg #[.pointer none]) = .ag [.v (.pointer none)] := by kernel_rfl
theorem tf_74 : tflds Tryd.prog 74 = some [(0, 1, false)] := by kernel_rfl
theorem nk_75 : nkT Tryd.prog 75 = some .nkp := by kernel_rfl
theorem td_75 : tdat Tryd.prog 75 = some ⟨false, 1, 8, .pointer none⟩ := by kernel_rfl
theorem zv_75 : ofV (.pointer none) = .v (.pointer none) := by kernel_rfl
theorem nk_76 : nkT Tryd.prog 76 = some .nki := by kernel_rfl
theorem td_76 : tdat Tryd.prog 76 = some ⟨false, 1, 16, .nilIface⟩ := by kernel_rfl
theorem zv_76 : ofV (.nilIface) = .v .nilIface := by kernel_rfl
theorem nk_78 : nkT Tryd.prog 78 = some .nkf := by kernel_rfl
theorem nk_79 : nkT Tryd.prog 79 = some .nki := by kernel_rfl
theorem td_79 : tdat Tryd.prog 79 = some ⟨false, 1, 16, .nilIface⟩ := by kernel_rfl
theorem zv_79 : ofV (.nilIface) = .v .nilIface := by kernel_rfl
theorem nk_80 : nkT Tryd.prog 80 = some .nki := by kernel_rfl
theorem td_80 : tdat Tryd.prog 80 = some ⟨false, 1, 16, .nilIface⟩ := by kernel_rfl
theorem zv_80 : ofV (.nilIface) = .v .nilIface := by kernel_rfl
theorem nk_81 : nkT Tryd.prog 81 = some .nkf := by kernel_rfl
theorem nk_82 : nkT Tryd.prog 82 = some .nkf := by kernel_rfl
theorem nk_83 : nkT Tryd.prog 83 = some .nkf := by kernel_rfl
theorem nk_84 : nkT Tryd.prog 84 = some .nki := by kernel_rfl
theorem td_84 : tdat Tryd.prog 84 = some ⟨false, 1, 16, .nilIface⟩ := by kernel_rfl
theorem zv_84 : ofV (.nilIface) = .v .nilIface := by kernel_rfl
theorem nk_86 : nkT Tryd.prog 86 = some .nkf := by kernel_rfl
theorem nk_87 : nkT Tryd.prog 87 = some .nkf := by kernel_rfl
theorem td_88 : tdat Tryd.prog 88 = some ⟨true, 24, 24, .agg #[.int .u8 0, .int .u8 0, .int .u8 0, .int .u8 0, .int .u8 0, .int .u8 0, .int .u8 0, .int .u8 0, .int .u8 0, .int .u8 0, .int .u8 0, .int .u8 0, .int .u8 0, .int .u8 0, .int .u8 0, .int .u8 0, .int .u8 0, .int .u8 0, .int .u8 0, .int .u8 0, .int .u8 0, .int .u8 0, .int .u8 0, .int .u8 0]⟩ := by kernel_rfl
theorem zv_88 : ofV (.agg #[.int .u8 0, .int .u8 0, .int .u8 0, .int .u8 0, .int .u8 0, .int .u8 0, .int .u8 0, .int .u8 0, .int .u8 0, .int .u8 0, .int .u8 0, .int .u8 0, .int .u8 0, .int .u8 0, .int .u8 0, .int .u8 0, .int .u8 0, .int .u8 0, .int .u8 0, .int .u8 0, .int .u8 0, .int .u8 0, .int .u8 0, .int .u8 0]) = .ag [.v (.int .u8 0), .v (.int .u8 0), .v (.int .u8 0), .v (.int .u8 0), .v (.int .u8 0), .v (.int .u8 0), .v (.int .u8 0), .v (.int .u8 0), .v (.int .u8 0), .v (.int .u8 0), .v (.int .u8 0), .v (.int .u8 0), .v (.int .u8 0), .v (.int .u8 0), .v (.int .u8 0), .v (.int .u8 0), .v (.int .u8 0), .v (.int .u8 0), .v (.int .u8 0), .v (.int .u8 0), .v (.int .u8 0), .v (.int .u8 0), .v (.int .u8 0), .v (.int .u8 0)] := by kernel_rfl
theorem tf_88 : tflds Tryd.prog 88 = none := by kernel_rfl
theorem tel_88 : tel Tryd.prog 88 = none := by kernel_rfl
theorem ta_88 : tarr Tryd.prog 88 = some (24, 5) := by kernel_rfl
theorem nk_89 : nkT Tryd.prog 89 = some .nkf := by kernel_rfl
theorem nk_90 : nkT Tryd.prog 90 = some .nkf := by kernel_rfl
theorem nk_92 : nkT Tryd.prog 92 = some .nkf := by kernel_rfl
theorem nk_93 : nkT Tryd.prog 93 = some .nkf := by kernel_rfl
theorem nk_94 : nkT Tryd.prog 94 = some .nkf := by kernel_rfl
theorem td_95 : tdat Tryd.prog 95 = some ⟨true, 20, 160, .agg #[.int .u64 0, .int .u64 0, .int .u64 0, .int .u64 0, .int .u64 0, .int .u64 0, .int .u64 0, .int .u64 0, .int .u64 0, .int .u64 0, .int .u64 0, .int .u64 0, .int .u64 0, .int .u64 0, .int .u64 0, .int .u64 0, .int .u64 0, .int .u64 0, .int .u64 0, .int .u64 0]⟩ := by kernel_rfl
theorem zv_95 : ofV (.agg #[.int .u64 0, .int .u64 0, .int .u64 0, .int .u64 0, .int .u64 0, .int .u64 0, .int .u64 0, .int .u64 0, .int .u64 0, .int .u64 0, .int .u64 0, .int .u64 0, .int .u64 0, .int .u64 0, .int .u64 0, .int .u64 0, .int .u64 0, .int .u64 0, .int .u64 0, .int .u64 0]) = .ag [.v (.int .u64 0), .v (.int .u64 0), .v (.int .u64 0), .v (.int .u64 0), .v (.int .u64 0), .v (.int .u64 0), .v (.int .u64 0), .v (.int .u64 0), .v (.int .u64 0), .v (.int .u64 0), .v (.int .u64 0), .v (.int .u64 0), .v (.int .u64 0), .v (.int .u64 0), .v (.int .u64 0), .v (.int .u64 0), .v (.int .u64 0), .v (.int .u64 0), .v (.int .u64 0), .v (.int .u64 0)] := by kernel_rfl
theorem tf_95 : tflds Tryd.prog 95 = none := by kernel_rfl
theorem tel_95 : tel Tryd.prog 95 = none := by kernel_rfl
theorem ta_95 : tarr Tryd.prog 95 = some (20, 57) := by kernel_rfl
theorem td_96 : tdat Tryd.prog 96 = some ⟨false, 1, 4, .int .u32 0⟩ := by kernel_rfl
theorem zv_96 : ofV (.int .u32 0) = .v (.int .u32 0) := by kernel_rfl
theorem td_97 : tdat Tryd.prog 97 = some ⟨true, 65, 65, .agg #[.int .u8 0, .int .u8 0, .int .u8 0, .int .u8 0, .int .u8 0, .int .u8 0, .int .u8 0, .int .u8 0, .int .u8 0, .int .u8 0, .int .u8 0, .int .u8 0, .int .u8 0, .int .u8 0, .int .u8 0, .int .u8 0, .int .u8 0, .int .u8 0, .int .u8 0, .int .u8 0, .int .u8 0, .int .u8 0, .int .u8 0, .int .u8 0, .int .u8 0, .int .u8 0, .int .u8 0, .int .u8 0, .int .u8 0, .int .u8 0, .int .u8 0, .int .u8 0, .int .u8 0, .int .u8 0, .int .u8 0, .int .u8 0, .int .u8 0, .int .u8 0, .int .u8 0, .int .u8 0, .int .u8 0, .int .u8 0, .int .u8 0, .int .u8 0, .int .u8 0, .int .u8 0, .int .u8 0, .int .u8 0, .int .u8 0, .int .u8 0, .int .u8 0, .int .u8 0, .int .u8 0, .int .u8 0, .int .u8 0, .int .u8 0, .int .u8 0, .int .u8 0, .int .u8 0, .int .u8 0, .int .u8 0, .int .u8 0, .int .u8 0, .int .u8 0, .int .u8 0]⟩ := by kernel_rfl
theorem zv_97 : ofV (.agg #[.int .u8 0, .int .u8 0, .int .u8 0, .int .u8 0, .int .u8 0, .int .u8 0, .int .u8 0, .int .u8 0, .int .u8 0, .int .u8 0, .int .u8 0, .int .u8 0, .int .u8 0, .int .u8 0, .int .u8 0, .int .u8 0, .int .u8 0, .int .u8 0, .int .u8 0, .int .u8 0, .int .u8 0, .int .u8 0, .int .u8 0, .int .u8 0, .int .u8 0, .int .u8 0, .int .u8 0, .int .u8 0, .int .u8 0, .int .u8 0, .int .u8 0, .int .u8 0, .int .u8 0, .int .u8 0, .int .u8 0, .int .u8 0, .int .u8 0, .int .u8 0, .int .u8 0, .int .u8 0, .int .u8 0, .int .u8 0, .int .u8 0, .int .u8 0, .int .u8 0, .int .u8 0, .int .u8 0, .int .u8 0, .int .u8 0, .int .u8 0, .int .u8 0, .int .u8 0, .int .u8 0, .int .u8 0, .int .u8 0, .int .u8 0, .int .u8 0, .int .u8 0, .int .u8 0, .int .u8 0, .int .u8 0, .int .u8 0, .int .u8 0, .int .u8 0, .int .u8 0]) = .ag [.v (.int .u8 0), .v (.int .u8 0), .v (.int .u8 0), .v (.int .u8 0), .v (.int .u8 0), .v (.int .u8 0), .v (.int .u8 0), .v (.int .u8 0), .v (.int .u8 0), .v (.int .u8 0), .v (.int .u8 0), .v (.int .u8 0), .v (.int .u8 0), .v (.int .u8 0), .v (.int .u8 0), .v (.int .u8 0), .v (.int .u8 0), .v (.int .u8 0), .v (.int .u8 0), .v (.int .u8 0), .v (.int .u8 0), .v (.int .u8 0), .v (.int .u8 0), .v (.int .u8 0), .v (.int .u8 0), .v (.int .u8 0), .v (.int .u8 0), .v (.int .u8 0), .v (.int .u8 0), .v (.int .u8 0), .v (.int .u8 0), .v (.int .u8 0), .v (.int .u8 0), .v (.int .u8 0), .v (.int .u8 0), .v (.int .u8 0), .v (.int .u8 0), .v (.int .u8 0), .v (.int .u8 0), .v (.int .u8 0), .v (.int .u8 0), .v (.int .u8 0), .v (.int .u8 0), .v (.int .u8 0), .v (.int .u8 0), .v (.int .u8 0), .v (.int .u8 0), .v (.int .u8 0), .v (.int .u8 0), .v (.int .u8 0), .v (.int .u8 0), .v (.int .u8 0), .v (.int .u8 0), .v (.int .u8 0), .v (.int .u8 0), .v (.int .u8 0), .v (.int .u8 0), .v (.int .u8 0), .v (.int .u8 0), .v (.int .u8 0), .v (.int .u8 0), .v (.int .u8 0), .v (.int .u8 0), .v (.int .u8 0), .v (.int .u8 0)] := by kernel_rfl
theorem tf_97 : tflds Tryd.prog 97 = none := by kernel_rfl
theorem tel_97 : tel Tryd.prog 97 = none := by kernel_rfl
theorem ta_97 : tarr Tryd.prog 97 = some (65, 5) := by kernel_rfl
theorem nk_98 : nkT Tryd.prog 98 = some .nkf := by kernel_rfl
theorem td_99 : tdat Tryd.prog 99 = some ⟨false, 1, 8, .int .u64 0⟩ := by kernel_rfl
theorem zv_99 : ofV (.int .u64 0) = .v (.int .u64 0) := by kernel_rfl
theorem nk_100 : nkT Tryd.prog 100 = some .nkf := by kernel_rfl
theorem nk_101 : nkT Tryd.prog 101 = some .nkf := by kernel_rfl
theorem td_102 : tdat Tryd.prog 102 = some ⟨true, 32, 32, .agg #[.int .u8 0, .int .u8 0, .int .u8 0, .int .u8 0, .int .u8 0, .int .u8 0, .int .u8 0, .int .u8 0, .int .u8 0, .int .u8 0, .int .u8 0, .int .u8 0, .int .u8 0, .int .u8 0, .int .u8 0, .int .u8 0, .int .u8 0, .int .u8 0, .int .u8 0, .int .u8 0, .int .u8 0, .int .u8 0, .int .u8 0, .int .u8 0, .int .u8 0, .int .u8 0, .int .u8 0, .int .u8 0, .int .u8 0, .int .u8 0, .int .u8 0, .int .u8 0]⟩ := by kernel_rfl
theorem zv_102 : ofV (.agg #[.int .u8 0, .int .u8 0, .int .u8 0, .int .u8 0, .int .u8 0, .int .u8 0, .int .u8 0, .int .u8 0, .int .u8 0, .int .u8 0, .int .u8 0, .int .u8 0, .int .u8 0, .int .u8 0, .int .u8 0, .int .u8 0, .int .u8 0, .int .u8 0, .int .u8 0, .int .u8 0, .int .u8 0, .int .u8 0, .int .u8 0, .int .u8 0, .int .u8 0, .int .u8 0, .int .u8 0, .int .u8 0, .int .u8 0, .int .u8 0, .int .u8 0, .int .u8 0]) = .ag [.v (.int .u8 0), .v (.int .u8 0), .v (.int .u8 0), .v (.int .u8 0), .v (.int .u8 0), .v (.int .u8 0), .v (.int .u8 0), .v (.int .u8 0), .v (.int .u8 0), .v (.int .u8 0), .v (.int .u8 0), .v (.int .u8 0), .v (.int .u8 0), .v (.int .u8 0), .v (.int .u8 0), .v (.int .u8 0), .v (.int .u8 0), .v (.int .u8 0), .v (.int .u8 0), .v (.int .u8 0), .v (.int .u8 0), .v (.int .u8 0), .v (.int .u8 0), .v (.int .u8 0), .v (.int .u8 0), .v (.int .u8 0), .v (.int .u8 0), .v (.int .u8 0), .v (.int .u8 0), .v (.int .u8 0), .v (.int .u8 0), .v (.int .u8 0)] := by kernel_rfl
theorem tf_102 : tflds Tryd.prog 102 = none := by kernel_rfl
theorem tel_102 : tel Tryd.prog 102 = none := by kernel_rfl
theorem ta_102 : tarr Tryd.prog 102 = some (32, 5) := by kernel_rfl
theorem td_103 : tdat Tryd.prog 103 = some ⟨true, 64, 64, .agg #[.int .u8 0, .int .u8 0, .int .u8 0, .int .u8 0, .int .u8 0, .int .u8 0, .int .u8 0, .int .u8 0, .int .u8 0, .int .u8 0, .int .u8 0, .int .u8 0, .int .u8 0, .int .u8 0, .int .u8 0, .int .u8 0, .int .u8 0, .int .u8 0, .int .u8 0, .int .u8 0, .int .u8 0, .int .u8 0, .int .u8 0, .int .u8 0, .int .u8 0, .int .u8 0, .int .u8 0, .int .u8 0, .int .u8 0, .int .u8 0, .int .u8 0, .int .u8 0, .int .u8 0, .int .u8 0, .int .u8 0, .int .u8 0, .int .u8 0, .int .u8 0, .int .u8 0, .int .u8 0, .int .u8 0, .int .u8 0, .int .u8 0, .int .u8 0, .int .u8 0, .int .u8 0, .int .u8 0, .int .u8 0, .int .u8 0, .int .u8 0, .int .u8 0, .int .u8 0, .int .u8 0, .int .u8 0, .int .u8 0, .int .u8 0, .int .u8 0, .int .u8 0, .int .u8 0, .int .u8 0, .int .u8 0, .int .u8 0, .int .u8 0, .int .u8 0]⟩ := by kernel_rfl
theorem zv_103 : ofV (.agg #[.int .u8 0, .int .u8 0, .int .u8 0, .int .u8 0, .int .u8 0, .int .u8 0, .int .u8 0, .int .u8 0, .int .u8 0, .int .u8 0, .int .u8 0, .int .u8 0, .int .u8 0, .int .u8 0, .int .u8 0, .int .u8 0, .int .u8 0, .int .u8 0, .int .u8 0, .int .u8 0, .int .u8 0, .int .u8 0, .int .u8 0, .int .u8 0, .int .u8 0, .int .u8 0, .int .u8 0, .int .u8 0, .int .u8 0, .int .u8 0, .int .u8 0, .int .u8 0, .int .u8 0, .int .u8 0, .int .u8 0, .int .u8 0, .int .u8 0, .int .u8 0, .int .u8 0, .int .u8 0, .int .u8 0, .int .u8 0, .int .u8 0, .int .u8 0, .int .u8 0, .int .u8 0, .int .u8 0, .int .u8 0, .int .u8 0, .int .u8 0, .int .u8 0, .int .u8 0, .int .u8 0, .int .u8 0, .int .u8 0, .int .u8 0, .int .u8 0, .int .u8 0, .int .u8 0, .int .u8 0, .int .u8 0, .int .u8 0, .int .u8 0, .int .u8 0]) = .ag [.v (.int .u8 0), .v (.int .u8 0), .v (.int .u8 0), .v (.int .u8 0), .v (.int .u8 0), .v (.int .u8 0), .v (.int .u8 0), .v (.int .u8 0), .v (.int .u8 0), .v (.int .u8 0), .v (.int .u8 0), .v (.int .u8 0), .v (.int .u8 0), .v (.int .u8 0), .v (.int .u8 0), .v (.int .u8 0), .v (.int .u8 0), .v (.int .u8 0), .v (.int .u8 0), .v (.int .u8 0), .v (.int .u8 0), .v (.int .u8 0), .v (.int .u8 0), .v (.int .u8 0), .v (.int .u8 0), .v (.int .u8 0), .v (.int .u8 0), .v (.int .u8 0), .v (.int .u8 0), .v (.int .u8 0), .v (.int .u8 0), .v (.int .u8 0), .v (.int .u8 0), .v (.int .u8 0), .v (.int .u8 0), .v (.int .u8 0), .v (.int .u8 0), .v (.int .u8 0), .v (.int .u8 0), .v (.int .u8 0), .v (.int .u8 0), .v (.int .u8 0), .v (.int .u8 0), .v (.int .u8 0), .v (.int .u8 0), .v (.int .u8 0), .v (.int .u8 0), .v (.int .u8 0), .v (.int .u8 0), .v (.int .u8 0), .v (.int .u8 0), .v (.int .u8 0), .v (.int .u8 0), .v (.int .u8 0), .v (.int .u8 0), .v (.int .u8 0), .v (.int .u8 0), .v (.int .u8 0), .v (.int .u8 0), .v (.int .u8 0), .v (.int .u8 0), .v (.int .u8 0), .v (.int .u8 0), .v (.int .u8 0)] := by kernel_rfl
theorem tf_103 : tflds Tryd.prog 103 = none := by kernel_rfl
theorem tel_103 : tel Tryd.prog 103 = none := by kernel_rfl
theorem ta_103 : tarr Tryd.prog 103 = some (64, 5) := by kernel_rfl
theorem td_104 : tdat Tryd.prog 104 = some ⟨true, 4, 40, .agg #[.pointer none, .pointer none, .pointer none, .string ⟨#[]⟩]⟩ := by kernel_rfl
theorem zv_104 : ofV (.agg #[.pointer none, .pointer none, .pointer none, .string ⟨#[]⟩]) = .ag [.v (.pointer none), .v (.pointer none), .v (.pointer none), .v (.string ⟨#[]⟩)] := by kernel_rfl
theorem tf_104 : tflds Tryd.prog 104 = some [(0, 1, false), (1, 1, false), (2, 1, false), (3, 1, false)] := by kernel_rfl
theorem td_105 : tdat Tryd.prog 105 = some ⟨true, 4, 40, .agg #[.pointer none, .pointer none, .pointer none, .string ⟨#[]⟩]⟩ := by kernel_rfl
theorem zv_105 : ofV (.agg #[.pointer none, .pointer none, .pointer none, .string ⟨#[]⟩]) = .ag [.v (.pointer none), .v (.pointer none), .v (.pointer none), .v (.string ⟨#[]⟩)] := by kernel_rfl
theorem tf_105 : tflds Tryd.prog 105 = some [(0, 1, false), (1, 1, false), (2, 1, false), (3, 1, false)] := by kernel_rfl
theorem td_106 : tdat Tryd.prog 106 = some ⟨true, 0, 0, .agg #[]⟩ := by kernel_rfl
theorem zv_106 : ofV (.agg #[]) = .ag [] := by kernel_rfl
theorem tf_106 : tflds Tryd.prog 106 = none := by kernel_rfl
theorem tel_106 : tel Tryd.prog 106 = none := by kernel_rfl
theorem ta_106 : tarr Tryd.prog 106 = some (0, 16) := by kernel_rfl
theorem td_107 : tdat Tryd.prog 107 = some ⟨true, 0, 0, .agg #[]⟩ := by kernel_rfl
theorem zv_107 : ofV (.agg #[]) = .ag [] := by kernel_rfl
theorem tf_107 : tflds Tryd.prog 107 = some [(0, 0, true)] := by kernel_rfl
theorem td_108 : tdat Tryd.prog 108 = some ⟨true, 0, 0, .agg #[]⟩ := by kernel_rfl
theorem zv_108 : ofV (.agg #[]) = .ag [] := by kernel_rfl
theorem tf_108 : tflds Tryd.prog 108 = some [(0, 0, true)] := by kernel_rfl
theorem nk_109 : nkT Tryd.prog 109 = some .nkf := by kernel_rfl
theorem nk_110 : nkT Tryd.prog 110 = some .nkf := by kernel_rfl
theorem td_111 : tdat Tryd.prog 111 = some ⟨false, 1, 1, .int .u8 0⟩ := by kernel_rfl
theorem zv_111 : ofV (.int .u8 0) = .v (.int .u8 0) := by kernel_rfl
theorem nk_112 : nkT Tryd.prog 112 = some .nkf := by kernel_rfl
theorem nk_113 : nkT Tryd.prog 113 = some .nkp := by kernel_rfl
theorem td_113 : tdat Tryd.prog 113 = some ⟨false, 1, 8, .pointer none⟩ := by kernel_rfl
theorem zv_113 : ofV (.pointer none) = .v (.pointer none) := by kernel_rfl
theorem td_114 : tdat Tryd.prog 114 = some ⟨false, 1, 4, .int .i32 0⟩ := by kernel_rfl
theorem zv_114 : ofV (.int .i32 0) = .v (.int .i32 0) := by kernel_rfl
theorem td_115 : tdat Tryd.prog 115 = some ⟨false, 1, 4, .int .i32 0⟩ := by kernel_rfl
theorem zv_115 : ofV (.int .i32 0) = .v (.int .i32 0) := by kernel_rfl
theorem td_116 : tdat Tryd.prog 116 = some ⟨true, 11, 48, .agg #[.int .u64 0, .int .u64 0, .int .u32 0, .int .u8 0, .int .u8 0, .int .u8 0, .int .u8 0, .nilFunc, .pointer none, .int .i32 0, .int .i32 0]⟩ := by kernel_rfl
theorem zv_116 : ofV (.agg #[.int .u64 0, .int .u64 0, .int .u32 0, .int .u8 0, .int .u8 0, .int .u8 0, .int .u8 0, .nilFunc, .pointer none, .int .i32 0, .int .i32 0]) = .ag [.v (.int .u64 0), .v (.int .u64 0), .v (.int .u32 0), .v (.int .u8 0), .v (.int .u8 0), .v (.int .u8 0), .v (.int .u8 0), .v .nilFunc, .v (.pointer none), .v (.int .i32 0), .v (.int .i32 0)] := by kernel_rfl
theorem tf_116 : tflds Tryd.prog 116 = some [(0, 1, false), (1, 1, false), (2, 1, false), (3, 1, false), (4, 1, false), (5, 1, false), (6, 1, false), (7, 1, false), (8, 1, false), (9, 1, false), (10, 1, false)] := by kernel_rfl
theorem td_117 : tdat Tryd.prog 117 = some ⟨true, 11, 48, .agg #[.int .u64 0, .int .u64 0, .int .u32 0, .int .u8 0, .int .u8 0, .int .u8 0, .int .u8 0, .nilFunc, .pointer none, .int .i32 0, .int .i32 0]⟩ := by kernel_rfl
theorem zv_117 : ofV (.agg #[.int .u64 0, .int .u64 0, .int .u32 0, .int .u8 0, .int .u8 0, .int .u8 0, .int .u8 0, .nilFunc, .pointer none, .int .i32 0, .int .i32 0]) = .ag [.v (.int .u64 0), .v (.int .u64 0), .v (.int .u32 0), .v (.int .u8 0), .v (.int .u8 0), .v (.int .u8 0), .v (.int .u8 0), .v .nilFunc, .v (.pointer none), .v (.int .i32 0), .v (.int .i32 0)] := by kernel_rfl
theorem tf_117 : tflds Tryd.prog 117 = some [(0, 1, false), (1, 1, false), (2, 1, false), (3, 1, false), (4, 1, false), (5, 1, false), (6, 1, false), (7, 1, false), (8, 1, false), (9, 1, false), (10, 1, false)] := by kernel_rfl
theorem nk_118 : nkT Tryd.prog 118 = some .nkf := by kernel_rfl
theorem nk_119 : nkT Tryd.prog 119 = some .nkf := by kernel_rfl
theorem td_120 : tdat Tryd.prog 120 = some ⟨true, 2, 24, .agg #[.string ⟨#[]⟩, .int .u8 0]⟩ := by kernel_rfl
theorem zv_120 : ofV (.agg #[.string ⟨#[]⟩, .int .u8 0]) = .ag [.v (.string ⟨#[]⟩), .v (.int .u8 0)] := by kernel_rfl
theorem tf_120 : tflds Tryd.prog 120 = some [(0, 1, false), (1, 1, false)] := by kernel_rfl
theorem td_121 : tdat Tryd.prog 121 = some ⟨true, 2, 24, .agg #[.string ⟨#[]⟩, .int .u8 0]⟩ := by kernel_rfl
theorem zv_121 : ofV (.agg #[.string ⟨#[]⟩, .int .u8 0]) = .ag [.v (.string ⟨#[]⟩), .v (.int .u8 0)] := by kernel_rfl
theorem tf_121 : tflds Tryd.prog 121 = some [(0, 1, false), (1, 1, false)] := by kernel_rfl
theorem nk_122 : nkT Tryd.prog 122 = some .nkp := by kernel_rfl
theorem td_122 : tdat Tryd.prog 122 = some ⟨false, 1, 8, .pointer none⟩ := by kernel_rfl
theorem zv_122 : ofV (.pointer none) = .v (.pointer none) := by kernel_rfl
theorem nk_123 : nkT Tryd.prog 123 = some .nkf := by kernel_rfl
theorem td_124 : tdat Tryd.prog 124 = some ⟨false, 1, 2, .int .u16 0⟩ := by kernel_rfl
theorem zv_124 : ofV (.int .u16 0) = .v (.int .u16 0) := by kernel_rfl
theorem td_125 : tdat Tryd.prog 125 = some ⟨true, 5, 16, .agg #[.int .i32 0, .int .u16 0, .int .u16 0, .int .u32 0, .int .u32 0]⟩ := by kernel_rfl
theorem zv_125 : ofV (.agg #[.int .i32 0, .int .u16 0, .int .u16 0, .int .u32 0, .int .u32 0]) = .ag [.v (.int .i32 0), .v (.int .u16 0), .v (.int .u16 0), .v (.int .u32 0), .v (.int .u32 0)] := by kernel_rfl
theorem tf_125 : tflds Tryd.prog 125 = some [(0, 1, false), (1, 1, false), (2, 1, false), (3, 1, false), (4, 1, false)] := by kernel_rfl
theorem td_126 : tdat Tryd.prog 126 = some ⟨true, 5, 16, .agg #[.int .i32 0, .int .u16 0, .int .u16 0, .int .u32 0, .int .u32 0]⟩ := by kernel_rfl
theorem zv_126 : ofV (.agg #[.int .i32 0, .int .u16 0, .int .u16 0, .int .u32 0, .int .u32 0]) = .ag [.v (.int .i32 0), .v (.int .u16 0), .v (.int .u16 0), .v (.int .u32 0), .v (.int .u32 0)] := by kernel_rfl
theorem tf_126 : tflds Tryd.prog 126 = some [(0, 1, false), (1, 1, false), (2, 1, false), (3, 1, false), (4, 1, false)] := by kernel_rfl
theorem td_127 : tdat Tryd.prog 127 = some ⟨false, 1, 24, .slice none 0 0⟩ := by kernel_rfl
theorem zv_127 : ofV (.slice none 0 0) = .sl .full [] := by kernel_rfl
theorem tel_127 : tel Tryd.prog 127 = some 130 := by kernel_rfl
theorem td_128 : tdat Tryd.prog 128 = some ⟨false, 1, 4, .int .i32 0⟩ := by kernel_rfl
theorem zv_128 : ofV (.int .i32 0) = .v (.int .i32 0) := by kernel_rfl
theorem td_129 : tdat Tryd.prog 129 = some ⟨true, 4, 16, .agg #[.int .i32 0, .int .i32 0, .int .i32 0, .int .i32 0]⟩ := by kernel_rfl
theorem zv_129 : ofV (.agg #[.int .i32 0, .int .i32 0, .int .i32 0, .int .i32 0]) = .ag [.v (.int .i32 0), .v (.int .i32 0), .v (.int .i32 0), .v (.int .i32 0)] := by kernel_rfl
theorem tf_129 : tflds Tryd.prog 129 = some [(0, 1, false), (1, 1, false), (2, 1, false), (3, 1, false)] := by kernel_rfl
theorem td_130 : tdat Tryd.prog 130 = some ⟨true, 4, 16, .agg #[.int .i32 0, .int .i32 0, .int .i32 0, .int .i32 0]⟩ := by kernel_rfl
theorem zv_130 : ofV (.agg #[.int .i32 0, .int .i32 0, .int .i32 0, .int .i32 0]) = .ag [.v (.int .i32 0), .v (.int .i32 0), .v (.int .i32 0), .v (.int .i32 0)] := by kernel_rfl
theorem tf_130 : tflds Tryd.prog 130 = some [(0, 1, false), (1, 1, false), (2, 1, false), (3, 1, false)] := by kernel_rfl
theorem nk_131 : nkT Tryd.prog 131 = some .nkp := by kernel_rfl
theorem td_131 : tdat Tryd.prog 131 = some ⟨false, 1, 8, .pointer none⟩ := by kernel_rfl
theorem zv_131 : ofV (.pointer none) = .v (.pointer none) := by kernel_rfl
end Go.Proofs.YtofnlkogpljmmaaDoor
