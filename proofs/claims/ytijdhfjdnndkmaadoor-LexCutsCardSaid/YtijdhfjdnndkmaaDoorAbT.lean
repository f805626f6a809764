/-
  Closed facts on the types of this seat.
-/
import Derived.Test.YtijdhfjdnndkmaaDoorRows
import Derived.Test.YtijdhfjdnndkmaaDoorAbFn
import Derived.KernelRfl
namespace Go.Proofs.YtijdhfjdnndkmaaDoor
open Go Go.RowKit
theorem ok_mix : Tryd.prog.follows .mixedOrders = true := by kernel_rfl
theorem nk_1 : nkT Tryd.prog 1 = some .nkf := by kernel_rfl
theorem td_2 : tdat Tryd.prog 2 = some ⟨false, 1, 8, .int .i64 0⟩ := by kernel_rfl
theorem zv_2 : ofV (.int .i64 0) = .v (.int .i64 0) := by kernel_rfl
theorem td_3 : tdat Tryd.prog 3 = some ⟨false, 1, 8, .int .i64 0⟩ := by kernel_rfl
theorem zv_3 : ofV (.int .i64 0) = .v (.int .i64 0) := by kernel_rfl
theorem td_4 : tdat Tryd.prog 4 = some ⟨false, 1, 1, .bool false⟩ := by kernel_rfl
theorem zv_4 : ofV (.bool false) = .v (.bool false) := by kernel_rfl
theorem td_5 : tdat Tryd.prog 5 = some ⟨false, 1, 1, .int .u8 0⟩ := by kernel_rfl
theorem zv_5 : ofV (.int .u8 0) = .v (.int .u8 0) := by kernel_rfl
theorem td_6 : tdat Tryd.prog 6 = some ⟨false, 1, 1, .int .u8 0⟩ := by kernel_rfl
theorem zv_6 : ofV (.int .u8 0) = .v (.int .u8 0) := by kernel_rfl
theorem td_7 : tdat Tryd.prog 7 = some ⟨true, 4, 24, .agg #[.int .i64 0, .int .i64 0, .bool false, .int .u8 0]⟩ := by kernel_rfl
theorem zv_7 : ofV (.agg #[.int .i64 0, .int .i64 0, .bool false, .int .u8 0]) = .ag [.v (.int .i64 0), .v (.int .i64 0), .v (.bool false), .v (.int .u8 0)] := by kernel_rfl
theorem tf_7 : tflds Tryd.prog 7 = some [(0, 1, false), (1, 1, false), (2, 1, false), (3, 1, false)] := by kernel_rfl
theorem td_8 : tdat Tryd.prog 8 = some ⟨true, 4, 24, .agg #[.int .i64 0, .int .i64 0, .bool false, .int .u8 0]⟩ := by kernel_rfl
theorem zv_8 : ofV (.agg #[.int .i64 0, .int .i64 0, .bool false, .int .u8 0]) = .ag [.v (.int .i64 0), .v (.int .i64 0), .v (.bool false), .v (.int .u8 0)] := by kernel_rfl
theorem tf_8 : tflds Tryd.prog 8 = some [(0, 1, false), (1, 1, false), (2, 1, false), (3, 1, false)] := by kernel_rfl
theorem td_9 : tdat Tryd.prog 9 = some ⟨false, 1, 16, .string ⟨#[]⟩⟩ := by kernel_rfl
theorem zv_9 : ofV (.string ⟨#[]⟩) = .v (.string ⟨#[]⟩) := by kernel_rfl
theorem td_10 : tdat Tryd.prog 10 = some ⟨false, 1, 16, .string ⟨#[]⟩⟩ := by kernel_rfl
theorem zv_10 : ofV (.string ⟨#[]⟩) = .v (.string ⟨#[]⟩) := by kernel_rfl
theorem td_11 : tdat Tryd.prog 11 = some ⟨false, 1, 16, .string ⟨#[]⟩⟩ := by kernel_rfl
theorem zv_11 : ofV (.string ⟨#[]⟩) = .v (.string ⟨#[]⟩) := by kernel_rfl
theorem td_12 : tdat Tryd.prog 12 = some ⟨false, 1, 8, .int .u64 0⟩ := by kernel_rfl
theorem zv_12 : ofV (.int .u64 0) = .v (.int .u64 0) := by kernel_rfl
theorem td_13 : tdat Tryd.prog 13 = some ⟨true, 2, 24, .agg #[.string ⟨#[]⟩, .int .u64 0]⟩ := by kernel_rfl
theorem zv_13 : ofV (.agg #[.string ⟨#[]⟩, .int .u64 0]) = .ag [.v (.string ⟨#[]⟩), .v (.int .u64 0)] := by kernel_rfl
theorem tf_13 : tflds Tryd.prog 13 = some [(0, 1, false), (1, 1, false)] := by kernel_rfl
theorem td_14 : tdat Tryd.prog 14 = some ⟨true, 2, 24, .agg #[.string ⟨#[]⟩, .int .u64 0]⟩ := by kernel_rfl
theorem zv_14 : ofV (.agg #[.string ⟨#[]⟩, .int .u64 0]) = .ag [.v (.string ⟨#[]⟩), .v (.int .u64 0)] := by kernel_rfl
theorem tf_14 : tflds Tryd.prog 14 = some [(0, 1, false), (1, 1, false)] := by kernel_rfl
theorem nk_15 : nkT Tryd.prog 15 = some .nkp := by kernel_rfl
theorem td_15 : tdat Tryd.prog 15 = some ⟨false, 1, 8, .pointer none⟩ := by kernel_rfl
theorem zv_15 : ofV (.pointer none) = .v (.pointer none) := by kernel_rfl
theorem nk_16 : nkT Tryd.prog 16 = some .nkp := by kernel_rfl
theorem td_16 : tdat Tryd.prog 16 = some ⟨false, 1, 8, .pointer none⟩ := by kernel_rfl
theorem zv_16 : ofV (.pointer none) = .v (.pointer none) := by kernel_rfl
theorem nk_17 : nkT Tryd.prog 17 = some .nkp := by kernel_rfl
theorem td_17 : tdat Tryd.prog 17 = some ⟨false, 1, 8, .pointer none⟩ := by kernel_rfl
theorem zv_17 : ofV (.pointer none) = .v (.pointer none) := by kernel_rfl
theorem td_18 : tdat Tryd.prog 18 = some ⟨true, 1, 8, .agg #[.pointer none]⟩ := by kernel_rfl
theorem zv_18 : ofV (.agg #[.pointer none]) = .ag [.v (.pointer none)] := by kernel_rfl
theorem tf_18 : tflds Tryd.prog 18 = some [(0, 1, false)] := by kernel_rfl
theorem td_19 : tdat Tryd.prog 19 = some ⟨true, 1, 8, .agg #[.pointer none]⟩ := by kernel_rfl
theorem zv_19 : ofV (.agg #[.pointer none]) = .ag [.v (.pointer none)] := by kernel_rfl
theorem tf_19 : tflds Tryd.prog 19 = some [(0, 1, false)] := by kernel_rfl
theorem nk_20 : nkT Tryd.prog 20 = some .nki := by kernel_rfl
theorem td_20 : tdat Tryd.prog 20 = some ⟨false, 1, 16, .nilIface⟩ := by kernel_rfl
theorem zv_20 : ofV (.nilIface) = .v .nilIface := by kernel_rfl
theorem td_21 : tdat Tryd.prog 21 = some ⟨false, 1, 4, .int .i32 0⟩ := by kernel_rfl
theorem zv_21 : ofV (.int .i32 0) = .v (.int .i32 0) := by kernel_rfl
theorem td_22 : tdat Tryd.prog 22 = some ⟨false, 1, 4, .int .u32 0⟩ := by kernel_rfl
theorem zv_22 : ofV (.int .u32 0) = .v (.int .u32 0) := by kernel_rfl
theorem td_23 : tdat Tryd.prog 23 = some ⟨false, 1, 8, .int .u64 0⟩ := by kernel_rfl
theorem zv_23 : ofV (.int .u64 0) = .v (.int .u64 0) := by kernel_rfl
theorem td_24 : tdat Tryd.prog 24 = some ⟨false, 1, 24, .slice none 0 0⟩ := by kernel_rfl
theorem zv_24 : ofV (.slice none 0 0) = .sl .full [] := by kernel_rfl
theorem tel_24 : tel Tryd.prog 24 = some 5 := by kernel_rfl
theorem td_25 : tdat Tryd.prog 25 = some ⟨false, 1, 24, .slice none 0 0⟩ := by kernel_rfl
theorem zv_25 : ofV (.slice none 0 0) = .sl .full [] := by kernel_rfl
theorem tel_25 : tel Tryd.prog 25 = some 36 := by kernel_rfl
theorem nk_26 : nkT Tryd.prog 26 = some .nki := by kernel_rfl
theorem td_26 : tdat Tryd.prog 26 = some ⟨false, 1, 16, .nilIface⟩ := by kernel_rfl
theorem zv_26 : ofV (.nilIface) = .v .nilIface := by kernel_rfl
theorem nk_27 : nkT Tryd.prog 27 = some .nki := by kernel_rfl
theorem td_27 : tdat Tryd.prog 27 = some ⟨false, 1, 16, .nilIface⟩ := by kernel_rfl
theorem zv_27 : ofV (.nilIface) = .v .nilIface := by kernel_rfl
theorem nk_29 : nkT Tryd.prog 29 = some .nkf := by kernel_rfl
theorem nk_30 : nkT Tryd.prog 30 = some .nkf := by kernel_rfl
theorem td_31 : tdat Tryd.prog 31 = some ⟨false, 1, 8, .int .i64 0⟩ := by kernel_rfl
theorem zv_31 : ofV (.int .i64 0) = .v (.int .i64 0) := by kernel_rfl
theorem nk_32 : nkT Tryd.prog 32 = some .nkf := by kernel_rfl
theorem td_33 : tdat Tryd.prog 33 = some ⟨true, 2, 16, .agg #[.int .i64 0, .int .i64 0]⟩ := by kernel_rfl
theorem zv_33 : ofV (.agg #[.int .i64 0, .int .i64 0]) = .ag [.v (.int .i64 0), .v (.int .i64 0)] := by kernel_rfl
theorem tf_33 : tflds Tryd.prog 33 = some [(0, 1, false), (1, 1, false)] := by kernel_rfl
theorem fl_33 : flat1 Tryd.prog 33 = some [.ski, .ski] := by kernel_rfl
theorem td_34 : tdat Tryd.prog 34 = some ⟨true, 2, 16, .agg #[.int .i64 0, .int .i64 0]⟩ := by kernel_rfl
theorem zv_34 : ofV (.agg #[.int .i64 0, .int .i64 0]) = .ag [.v (.int .i64 0), .v (.int .i64 0)] := by kernel_rfl
theorem tf_34 : tflds Tryd.prog 34 = some [(0, 1, false), (1, 1, false)] := by kernel_rfl
theorem fl_34 : flat1 Tryd.prog 34 = some [.ski, .ski] := by kernel_rfl
theorem td_35 : tdat Tryd.prog 35 = some ⟨true, 5, 48, .agg #[.int .u8 0, .string ⟨#[]⟩, .int .i32 0, .int .i64 0, .int .i64 0]⟩ := by kernel_rfl
theorem zv_35 : ofV (.agg #[.int .u8 0, .string ⟨#[]⟩, .int .i32 0, .int .i64 0, .int .i64 0]) = .ag [.v (.int .u8 0), .v (.string ⟨#[]⟩), .v (.int .i32 0), .v (.int .i64 0), .v (.int .i64 0)] := by kernel_rfl
theorem tf_35 : tflds Tryd.prog 35 = some [(0, 1, false), (1, 1, false), (2, 1, false), (3, 2, true)] := by kernel_rfl
theorem td_36 : tdat Tryd.prog 36 = some ⟨true, 5, 48, .agg #[.int .u8 0, .string ⟨#[]⟩, .int .i32 0, .int .i64 0, .int .i64 0]⟩ := by kernel_rfl
theorem zv_36 : ofV (.agg #[.int .u8 0, .string ⟨#[]⟩, .int .i32 0, .int .i64 0, .int .i64 0]) = .ag [.v (.int .u8 0), .v (.string ⟨#[]⟩), .v (.int .i32 0), .v (.int .i64 0), .v (.int .i64 0)] := by kernel_rfl
theorem tf_36 : tflds Tryd.prog 36 = some [(0, 1, false), (1, 1, false), (2, 1, false), (3, 2, true)] := by kernel_rfl
theorem nk_37 : nkT Tryd.prog 37 = some .nkf := by kernel_rfl
theorem nk_38 : nkT Tryd.prog 38 = some .nkf := by kernel_rfl
theorem nk_39 : nkT Tryd.prog 39 = some .nkf := by kernel_rfl
theorem nk_40 : nkT Tryd.prog 40 = some .nkf := by kernel_rfl
theorem nk_41 : nkT Tryd.prog 41 = some .nkf := by kernel_rfl
theorem nk_42 : nkT Tryd.prog 42 = some .nkf := by kernel_rfl
theorem nk_43 : nkT Tryd.prog 43 = some .nkp := by kernel_rfl
theorem td_43 : tdat Tryd.prog 43 = some ⟨false, 1, 8, .pointer none⟩ := by kernel_rfl
theorem zv_43 : ofV (.pointer none) = .v (.pointer none) := by kernel_rfl
theorem td_44 : tdat Tryd.prog 44 = some ⟨true, 5, 64, .agg #[.string ⟨#[]⟩, .int .i64 0, .int .i64 0, .int .i64 0, .slice none 0 0]⟩ := by kernel_rfl
theorem zv_44 : ofV (.agg #[.string ⟨#[]⟩, .int .i64 0, .int .i64 0, .int .i64 0, .slice none 0 0]) = .ag [.v (.string ⟨#[]⟩), .v (.int .i64 0), .v (.int .i64 0), .v (.int .i64 0), .sl .full []] := by kernel_rfl
theorem tf_44 : tflds Tryd.prog 44 = some [(0, 1, false), (1, 1, false), (2, 1, false), (3, 1, false), (4, 1, false)] := by kernel_rfl
theorem td_45 : tdat Tryd.prog 45 = some ⟨true, 5, 64, .agg #[.string ⟨#[]⟩, .int .i64 0, .int .i64 0, .int .i64 0, .slice none 0 0]⟩ := by kernel_rfl
theorem zv_45 : ofV (.agg #[.string ⟨#[]⟩, .int .i64 0, .int .i64 0, .int .i64 0, .slice none 0 0]) = .ag [.v (.string ⟨#[]⟩), .v (.int .i64 0), .v (.int .i64 0), .v (.int .i64 0), .sl .full []] := by kernel_rfl
theorem tf_45 : tflds Tryd.prog 45 = some [(0, 1, false), (1, 1, false), (2, 1, false), (3, 1, false), (4, 1, false)] := by kernel_rfl
theorem nk_46 : nkT Tryd.prog 46 = some .nkf := by kernel_rfl
theorem nk_47 : nkT Tryd.prog 47 = some .nkf := by kernel_rfl
theorem nk_48 : nkT Tryd.prog 48 = some .nkf := by kernel_rfl
theorem nk_49 : nkT Tryd.prog 49 = some .nkp := by kernel_rfl
theorem td_49 : tdat Tryd.prog 49 = some ⟨false, 1, 8, .pointer none⟩ := by kernel_rfl
theorem zv_49 : ofV (.pointer none) = .v (.pointer none) := by kernel_rfl
theorem nk_50 : nkT Tryd.prog 50 = some .nkf := by kernel_rfl
theorem nk_51 : nkT Tryd.prog 51 = some .nkp := by kernel_rfl
theorem td_51 : tdat Tryd.prog 51 = some ⟨false, 1, 8, .pointer none⟩ := by kernel_rfl
theorem zv_51 : ofV (.pointer none) = .v (.pointer none) := by kernel_rfl
theorem td_52 : tdat Tryd.prog 52 = some ⟨true, 5, 56, .agg #[.int .i64 0, .int .i64 0, .string ⟨#[]⟩, .bool false, .nilIface]⟩ := by kernel_rfl
theorem zv_52 : ofV (.agg #[.int .i64 0, .int .i64 0, .string ⟨#[]⟩, .bool false, .nilIface]) = .ag [.v (.int .i64 0), .v (.int .i64 0), .v (.string ⟨#[]⟩), .v (.bool false), .v .nilIface] := by kernel_rfl
theorem tf_52 : tflds Tryd.prog 52 = some [(0, 2, true), (2, 1, false), (3, 1, false), (4, 1, false)] := by kernel_rfl
theorem td_53 : tdat Tryd.prog 53 = some ⟨true, 5, 56, .agg #[.int .i64 0, .int .i64 0, .string ⟨#[]⟩, .bool false, .nilIface]⟩ := by kernel_rfl
theorem zv_53 : ofV (.agg #[.int .i64 0, .int .i64 0, .string ⟨#[]⟩, .bool false, .nilIface]) = .ag [.v (.int .i64 0), .v (.int .i64 0), .v (.string ⟨#[]⟩), .v (.bool false), .v .nilIface] := by kernel_rfl
theorem tf_53 : tflds Tryd.prog 53 = some [(0, 2, true), (2, 1, false), (3, 1, false), (4, 1, false)] := by kernel_rfl
theorem nk_54 : nkT Tryd.prog 54 = some .nkf := by kernel_rfl
theorem nk_55 : nkT Tryd.prog 55 = some .nki := by kernel_rfl
theorem td_55 : tdat Tryd.prog 55 = some ⟨false, 1, 16, .nilIface⟩ := by kernel_rfl
theorem zv_55 : ofV (.nilIface) = .v .nilIface := by kernel_rfl
theorem nk_56 : nkT Tryd.prog 56 = some .nki := by kernel_rfl
theorem td_56 : tdat Tryd.prog 56 = some ⟨false, 1, 16, .nilIface⟩ := by kernel_rfl
theorem zv_56 : ofV (.nilIface) = .v .nilIface := by kernel_rfl
theorem nk_57 : nkT Tryd.prog 57 = some .nkf := by kernel_rfl
theorem nk_58 : nkT Tryd.prog 58 = some .nkf := by kernel_rfl
theorem td_59 : tdat Tryd.prog 59 = some ⟨false, 1, 8, .pointer none⟩ := by kernel_rfl
theorem zv_59 : ofV (.pointer none) = .v (.pointer none) := by kernel_rfl
theorem td_60 : tdat Tryd.prog 60 = some ⟨false, 1, 8, .int .u64 0⟩ := by kernel_rfl
theorem zv_60 : ofV (.int .u64 0) = .v (.int .u64 0) := by kernel_rfl
theorem td_61 : tdat Tryd.prog 61 = some ⟨true, 3, 24, .agg #[.pointer none, .pointer none, .int .u64 0]⟩ := by kernel_rfl
theorem zv_61 : ofV (.agg #[.pointer none, .pointer none, .int .u64 0]) = .ag [.v (.pointer none), .v (.pointer none), .v (.int .u64 0)] := by kernel_rfl
theorem tf_61 : tflds Tryd.prog 61 = some [(0, 1, false), (1, 1, false), (2, 1, false)] := by kernel_rfl
theorem td_62 : tdat Tryd.prog 62 = some ⟨true, 3, 24, .agg #[.pointer none, .pointer none, .int .u64 0]⟩ := by kernel_rfl
theorem zv_62 : ofV (.agg #[.pointer none, .pointer none, .int .u64 0]) = .ag [.v (.pointer none), .v (.pointer none), .v (.int .u64 0)] := by kernel_rfl
theorem tf_62 : tflds Tryd.prog 62 = some [(0, 1, false), (1, 1, false), (2, 1, false)] := by kernel_rfl
theorem nk_63 : nkT Tryd.prog 63 = some .nkf := by kernel_rfl
theorem nk_64 : nkT Tryd.prog 64 = some .nkf := by kernel_rfl
theorem td_65 : tdat Tryd.prog 65 = some ⟨false, 1, 1, .int .u8 0⟩ := by kernel_rfl
theorem zv_65 : ofV (.int .u8 0) = .v (.int .u8 0) := by kernel_rfl
theorem nk_66 : nkT Tryd.prog 66 = some .nkf := by kernel_rfl
theorem nk_67 : nkT Tryd.prog 67 = some .nkf := by kernel_rfl
theorem nk_68 : nkT Tryd.prog 68 = some .nkf := by kernel_rfl
theorem nk_69 : nkT Tryd.prog 69 = some .nkf := by kernel_rfl
theorem nk_70 : nkT Tryd.prog 70 = some .nkf := by kernel_rfl
theorem td_71 : tdat Tryd.prog 71 = some ⟨true, 4, 64, .agg #[.string ⟨#[]⟩, .string ⟨#[]⟩, .string ⟨#[]⟩, .string ⟨#[]⟩]⟩ := by kernel_rfl
theorem zv_71 : ofV (.agg #[.string ⟨#[]⟩, .string ⟨#[]⟩, .string ⟨#[]⟩, .string ⟨#[]⟩]) = .ag [.v (.string ⟨#[]⟩), .v (.string ⟨#[]⟩), .v (.string ⟨#[]⟩), .v (.string ⟨#[]⟩)] := by kernel_rfl
theorem tf_71 : tflds Tryd.prog 71 = none := by kernel_rfl
theorem tel_71 : tel Tryd.prog 71 = none := by kernel_rfl
theorem ta_71 : tarr Tryd.prog 71 = some (4, 9) := by kernel_rfl
theorem nk_72 : nkT Tryd.prog 72 = some .nkf := by kernel_rfl
theorem td_73 : tdat Tryd.prog 73 = some ⟨true, 1, 8, .agg #[.pointer none]⟩ := by kernel_rfl
theorem zv_73 : ofV (.agg #[.pointer none]) = .ag [.v (.pointer none)] := by kernel_rfl
theorem tf_73 : tflds Tryd.prog 73 = some [(0, 1, false)] := by kernel_rfl
theorem td_74 : tdat Tryd.prog 74 = some ⟨true, 1, 8, .agg #[.pointer none]⟩ := by kernel_rfl
theorem zv_74 : ofV (.agg #[.pointer none]) = .ag [.v (.pointer none)] := by kernel_rfl
theorem tf_74 : tflds Tryd.prog 74 = some [(0, 1, false)] := by kernel_rfl
theorem nk_75 : nkT Tryd.prog 75 = some .nkp := by kernel_rfl
theorem td_75 : tdat Tryd.prog 75 = some ⟨false, 1, 8, .pointer none⟩ := by kernel_rfl
theorem zv_75 : ofV (.pointer none) = .v (.pointer none) := by kernel_rfl
theorem nk_76 : nkT Tryd.prog 76 = some .nki := by kernel_rfl
theorem td_76 : tdat Tryd.prog 76 = some ⟨false, 1, 16, .nilIface⟩ := by kernel_rfl
theorem zv_76 : ofV (.nilIface) = .v .nilIface := by kernel_rfl
theorem nk_78 : nkT Tryd.prog 78 = some .nkf := by kernel_rfl
theorem nk_79 : nkT Tryd.prog 79 = some .nki := by kernel_rfl
theorem td_79 : tdat Tryd.prog 79 = some ⟨false, 1, 16, .nilIface⟩ := by kernel_rfl
theorem zv_79 : ofV (.nilIface) = .v .nilIface := by kernel_rfl
theorem nk_80 : nkT Tryd.prog 80 = some .nkf := by kernel_rfl
theorem nk_81 : nkT Tryd.prog 81 = some .nki := by kernel_rfl
theorem td_81 : tdat Tryd.prog 81 = some ⟨false, 1, 16, .nilIface⟩ := by kernel_rfl
theorem zv_81 : ofV (.nilIface) = .v .nilIface := by kernel_rfl
theorem td_82 : tdat Tryd.prog 82 = some ⟨false, 1, 24, .slice none 0 0⟩ := by kernel_rfl
theorem zv_82 : ofV (.slice none 0 0) = .sl .full [] := by kernel_rfl
theorem tel_82 : tel Tryd.prog 82 = some 27 := by kernel_rfl
theorem nk_83 : nkT Tryd.prog 83 = some .nkf := by kernel_rfl
theorem nk_84 : nkT Tryd.prog 84 = some .nkf := by kernel_rfl
theorem nk_85 : nkT Tryd.prog 85 = some .nkf := by kernel_rfl
theorem nk_86 : nkT Tryd.prog 86 = some .nki := by kernel_rfl
theorem td_86 : tdat Tryd.prog 86 = some ⟨false, 1, 16, .nilIface⟩ := by kernel_rfl
theorem zv_86 : ofV (.nilIface) = .v .nilIface := by kernel_rfl
theorem nk_88 : nkT Tryd.prog 88 = some .nkf := by kernel_rfl
theorem nk_89 : nkT Tryd.prog 89 = some .nkf := by kernel_rfl
theorem nk_90 : nkT Tryd.prog 90 = some .nkf := by kernel_rfl
theorem td_91 : tdat Tryd.prog 91 = some ⟨false, 1, 8, .int .u64 0⟩ := by kernel_rfl
theorem zv_91 : ofV (.int .u64 0) = .v (.int .u64 0) := by kernel_rfl
theorem nk_93 : nkT Tryd.prog 93 = some .nkf := by kernel_rfl
theorem nk_94 : nkT Tryd.prog 94 = some .nkf := by kernel_rfl
theorem td_95 : tdat Tryd.prog 95 = some ⟨true, 4, 40, .agg #[.pointer none, .pointer none, .pointer none, .string ⟨#[]⟩]⟩ := by kernel_rfl
theorem zv_95 : ofV (.agg #[.pointer none, .pointer none, .pointer none, .string ⟨#[]⟩]) = .ag [.v (.pointer none), .v (.pointer none), .v (.pointer none), .v (.string ⟨#[]⟩)] := by kernel_rfl
theorem tf_95 : tflds Tryd.prog 95 = some [(0, 1, false), (1, 1, false), (2, 1, false), (3, 1, false)] := by kernel_rfl
theorem td_96 : tdat Tryd.prog 96 = some ⟨true, 4, 40, .agg #[.pointer none, .pointer none, .pointer none, .string ⟨#[]⟩]⟩ := by kernel_rfl
theorem zv_96 : ofV (.agg #[.pointer none, .pointer none, .pointer none, .string ⟨#[]⟩]) = .ag [.v (.pointer none), .v (.pointer none), .v (.pointer none), .v (.string ⟨#[]⟩)] := by kernel_rfl
theorem tf_96 : tflds Tryd.prog 96 = some [(0, 1, false), (1, 1, false), (2, 1, false), (3, 1, false)] := by kernel_rfl
theorem td_97 : tdat Tryd.prog 97 = some ⟨true, 0, 0, .agg #[]⟩ := by kernel_rfl
theorem zv_97 : ofV (.agg #[]) = .ag [] := by kernel_rfl
theorem tf_97 : tflds Tryd.prog 97 = none := by kernel_rfl
theorem tel_97 : tel Tryd.prog 97 = none := by kernel_rfl
theorem ta_97 : tarr Tryd.prog 97 = some (0, 16) := by kernel_rfl
theorem td_98 : tdat Tryd.prog 98 = some ⟨true, 0, 0, .agg #[]⟩ := by kernel_rfl
theorem zv_98 : ofV (.agg #[]) = .ag [] := by kernel_rfl
theorem tf_98 : tflds Tryd.prog 98 = some [(0, 0, true)] := by kernel_rfl
theorem td_99 : tdat Tryd.prog 99 = some ⟨true, 0, 0, .agg #[]⟩ := by kernel_rfl
theorem zv_99 : ofV (.agg #[]) = .ag [] := by kernel_rfl
theorem tf_99 : tflds Tryd.prog 99 = some [(0, 0, true)] := by kernel_rfl
theorem nk_100 : nkT Tryd.prog 100 = some .nkf := by kernel_rfl
theorem nk_101 : nkT Tryd.prog 101 = some .nkf := by kernel_rfl
theorem td_102 : tdat Tryd.prog 102 = some ⟨false, 1, 1, .int .u8 0⟩ := by kernel_rfl
theorem zv_102 : ofV (.int .u8 0) = .v (.int .u8 0) := by kernel_rfl
theorem nk_103 : nkT Tryd.prog 103 = some .nkf := by kernel_rfl
theorem nk_104 : nkT Tryd.prog 104 = some .nkp := by kernel_rfl
theorem td_104 : tdat Tryd.prog 104 = some ⟨false, 1, 8, .pointer none⟩ := by kernel_rfl
theorem zv_104 : ofV (.pointer none) = .v (.pointer none) := by kernel_rfl
theorem td_105 : tdat Tryd.prog 105 = some ⟨false, 1, 4, .int .i32 0⟩ := by kernel_rfl
theorem zv_105 : ofV (.int .i32 0) = .v (.int .i32 0) := by kernel_rfl
theorem td_106 : tdat Tryd.prog 106 = some ⟨false, 1, 4, .int .i32 0⟩ := by kernel_rfl
theorem zv_106 : ofV (.int .i32 0) = .v (.int .i32 0) := by kernel_rfl
theorem td_107 : tdat Tryd.prog 107 = some ⟨true, 11, 48, .agg #[.int .u64 0, .int .u64 0, .int .u32 0, .int .u8 0, .int .u8 0, .int .u8 0, .int .u8 0, .nilFunc, .pointer none, .int .i32 0, .int .i32 0]⟩ := by kernel_rfl
theorem zv_107 : ofV (.agg #[.int .u64 0, .int .u64 0, .int .u32 0, .int .u8 0, .int .u8 0, .int .u8 0, .int .u8 0, .nilFunc, .pointer none, .int .i32 0, .int .i32 0]) = .ag [.v (.int .u64 0), .v (.int .u64 0), .v (.int .u32 0), .v (.int .u8 0), .v (.int .u8 0), .v (.int .u8 0), .v (.int .u8 0), .v .nilFunc, .v (.pointer none), .v (.int .i32 0), .v (.int .i32 0)] := by kernel_rfl
theorem tf_107 : tflds Tryd.prog 107 = some [(0, 1, false), (1, 1, false), (2, 1, false), (3, 1, false), (4, 1, false), (5, 1, false), (6, 1, false), (7, 1, false), (8, 1, false), (9, 1, false), (10, 1, false)] := by kernel_rfl
theorem td_108 : tdat Tryd.prog 108 = some ⟨true, 11, 48, .agg #[.int .u64 0, .int .u64 0, .int .u32 0, .int .u8 0, .int .u8 0, .int .u8 0, .int .u8 0, .nilFunc, .pointer none, .int .i32 0, .int .i32 0]⟩ := by kernel_rfl
theorem zv_108 : ofV (.agg #[.int .u64 0, .int .u64 0, .int .u32 0, .int .u8 0, .int .u8 0, .int .u8 0, .int .u8 0, .nilFunc, .pointer none, .int .i32 0, .int .i32 0]) = .ag [.v (.int .u64 0), .v (.int .u64 0), .v (.int .u32 0), .v (.int .u8 0), .v (.int .u8 0), .v (.int .u8 0), .v (.int .u8 0), .v .nilFunc, .v (.pointer none), .v (.int .i32 0), .v (.int .i32 0)] := by kernel_rfl
theorem tf_108 : tflds Tryd.prog 108 = some [(0, 1, false), (1, 1, false), (2, 1, false), (3, 1, false), (4, 1, false), (5, 1, false), (6, 1, false), (7, 1, false), (8, 1, false), (9, 1, false), (10, 1, false)] := by kernel_rfl
theorem nk_109 : nkT Tryd.prog 109 = some .nkf := by kernel_rfl
theorem nk_110 : nkT Tryd.prog 110 = some .nkf := by kernel_rfl
theorem td_111 : tdat Tryd.prog 111 = some ⟨true, 2, 24, .agg #[.string ⟨#[]⟩, .int .u8 0]⟩ := by kernel_rfl
theorem zv_111 : ofV (.agg #[.string ⟨#[]⟩, .int .u8 0]) = .ag [.v (.string ⟨#[]⟩), .v (.int .u8 0)] := by kernel_rfl
theorem tf_111 : tflds Tryd.prog 111 = some [(0, 1, false), (1, 1, false)] := by kernel_rfl
theorem td_112 : tdat Tryd.prog 112 = some ⟨true, 2, 24, .agg #[.string ⟨#[]⟩, .int .u8 0]⟩ := by kernel_rfl
theorem zv_112 : ofV (.agg #[.string ⟨#[]⟩, .int .u8 0]) = .ag [.v (.string ⟨#[]⟩), .v (.int .u8 0)] := by kernel_rfl
theorem tf_112 : tflds Tryd.prog 112 = some [(0, 1, false), (1, 1, false)] := by kernel_rfl
theorem nk_113 : nkT Tryd.prog 113 = some .nkp := by kernel_rfl
theorem td_113 : tdat Tryd.prog 113 = some ⟨false, 1, 8, .pointer none⟩ := by kernel_rfl
theorem zv_113 : ofV (.pointer none) = .v (.pointer none) := by kernel_rfl
theorem nk_114 : nkT Tryd.prog 114 = some .nkf := by kernel_rfl
theorem td_115 : tdat Tryd.prog 115 = some ⟨false, 1, 2, .int .u16 0⟩ := by kernel_rfl
theorem zv_115 : ofV (.int .u16 0) = .v (.int .u16 0) := by kernel_rfl
theorem td_116 : tdat Tryd.prog 116 = some ⟨true, 5, 16, .agg #[.int .i32 0, .int .u16 0, .int .u16 0, .int .u32 0, .int .u32 0]⟩ := by kernel_rfl
theorem zv_116 : ofV (.agg #[.int .i32 0, .int .u16 0, .int .u16 0, .int .u32 0, .int .u32 0]) = .ag [.v (.int .i32 0), .v (.int .u16 0), .v (.int .u16 0), .v (.int .u32 0), .v (.int .u32 0)] := by kernel_rfl
theorem tf_116 : tflds Tryd.prog 116 = some [(0, 1, false), (1, 1, false), (2, 1, false), (3, 1, false), (4, 1, false)] := by kernel_rfl
theorem td_117 : tdat Tryd.prog 117 = some ⟨true, 5, 16, .agg #[.int .i32 0, .int .u16 0, .int .u16 0, .int .u32 0, .int .u32 0]⟩ := by kernel_rfl
theorem zv_117 : ofV (.agg #[.int .i32 0, .int .u16 0, .int .u16 0, .int .u32 0, .int .u32 0]) = .ag [.v (.int .i32 0), .v (.int .u16 0), .v (.int .u16 0), .v (.int .u32 0), .v (.int .u32 0)] := by kernel_rfl
theorem tf_117 : tflds Tryd.prog 117 = some [(0, 1, false), (1, 1, false), (2, 1, false), (3, 1, false), (4, 1, false)] := by kernel_rfl
theorem td_118 : tdat Tryd.prog 118 = some ⟨false, 1, 24, .slice none 0 0⟩ := by kernel_rfl
theorem zv_118 : ofV (.slice none 0 0) = .sl .full [] := by kernel_rfl
theorem tel_118 : tel Tryd.prog 118 = some 121 := by kernel_rfl
theorem td_119 : tdat Tryd.prog 119 = some ⟨false, 1, 4, .int .i32 0⟩ := by kernel_rfl
theorem zv_119 : ofV (.int .i32 0) = .v (.int .i32 0) := by kernel_rfl
theorem td_120 : tdat Tryd.prog 120 = some ⟨true, 4, 16, .agg #[.int .i32 0, .int .i32 0, .int .i32 0, .int .i32 0]⟩ := by kernel_rfl
theorem zv_120 : ofV (.agg #[.int .i32 0, .int .i32 0, .int .i32 0, .int .i32 0]) = .ag [.v (.int .i32 0), .v (.int .i32 0), .v (.int .i32 0), .v (.int .i32 0)] := by kernel_rfl
theorem tf_120 : tflds Tryd.prog 120 = some [(0, 1, false), (1, 1, false), (2, 1, false), (3, 1, false)] := by kernel_rfl
theorem td_121 : tdat Tryd.prog 121 = some ⟨true, 4, 16, .agg #[.int .i32 0, .int .i32 0, .int .i32 0, .int .i32 0]⟩ := by kernel_rfl
theorem zv_121 : ofV (.agg #[.int .i32 0, .int .i32 0, .int .i32 0, .int .i32 0]) = .ag [.v (.int .i32 0), .v (.int .i32 0), .v (.int .i32 0), .v (.int .i32 0)] := by kernel_rfl
theorem tf_121 : tflds Tryd.prog 121 = some [(0, 1, false), (1, 1, false), (2, 1, false), (3, 1, false)] := by kernel_rfl
theorem nk_122 : nkT Tryd.prog 122 = some .nkp := by kernel_rfl
theorem td_122 : tdat Tryd.prog 122 = some ⟨false, 1, 8, .pointer none⟩ := by kernel_rfl
theorem zv_122 : ofV (.pointer none) = .v (.pointer none) := by kernel_rfl
end Go.Proofs.YtijdhfjdnndkmaaDoor
