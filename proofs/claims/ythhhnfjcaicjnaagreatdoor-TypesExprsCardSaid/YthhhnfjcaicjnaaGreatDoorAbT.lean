/-
 Closed facts on the types of this seat.
-/
-- halved
import Derived.Test.YthhhnfjcaicjnaaGreatDoorRows
import Derived.Test.YthhhnfjcaicjnaaGreatDoorWpA
import Derived.KernelRfl
namespace Go.Proofs.YthhhnfjcaicjnaaGreatDoor
open Go Go.RowKit
theorem ok_mix : Tryz.prog.follows .mixedOrders = true := by kernel_rfl
theorem td_3 : tdat Tryz.prog 3 = some ⟨false, 1, 8, .int .i64 0⟩ := by kernel_rfl
theorem zv_3 : ofV (.int .i64 0) = .v (.int .i64 0) := by kernel_rfl
theorem td_4 : tdat Tryz.prog 4 = some ⟨false, 1, 1, .bool false⟩ := by kernel_rfl
theorem zv_4 : ofV (.bool false) = .v (.bool false) := by kernel_rfl
theorem td_5 : tdat Tryz.prog 5 = some ⟨false, 1, 1, .int .u8 0⟩ := by kernel_rfl
theorem zv_5 : ofV (.int .u8 0) = .v (.int .u8 0) := by kernel_rfl
theorem td_9 : tdat Tryz.prog 9 = some ⟨false, 1, 16, .string ⟨#[]⟩⟩ := by kernel_rfl
theorem zv_9 : ofV (.string ⟨#[]⟩) = .v (.string ⟨#[]⟩) := by kernel_rfl
theorem nk_15 : nkT Tryz.prog 15 = some .nkp := by kernel_rfl
theorem nk_16 : nkT Tryz.prog 16 = some .nkp := by kernel_rfl
theorem nk_17 : nkT Tryz.prog 17 = some .nkp := by kernel_rfl
theorem nk_20 : nkT Tryz.prog 20 = some .nki := by kernel_rfl
theorem td_20 : tdat Tryz.prog 20 = some ⟨false, 1, 16, .nilIface⟩ := by kernel_rfl
theorem zv_20 : ofV (.nilIface) = .v .nilIface := by kernel_rfl
theorem td_21 : tdat Tryz.prog 21 = some ⟨false, 1, 4, .int .i32 0⟩ := by kernel_rfl
theorem zv_21 : ofV (.int .i32 0) = .v (.int .i32 0) := by kernel_rfl
theorem td_22 : tdat Tryz.prog 22 = some ⟨false, 1, 24, .slice none 0 0⟩ := by kernel_rfl
theorem zv_22 : ofV (.slice none 0 0) = .sl .full [] := by kernel_rfl
theorem tel_22 : tel Tryz.prog 22 = some 5 := by kernel_rfl
theorem td_23 : tdat Tryz.prog 23 = some ⟨false, 1, 2, .int .u16 0⟩ := by kernel_rfl
theorem zv_23 : ofV (.int .u16 0) = .v (.int .u16 0) := by kernel_rfl
theorem td_25 : tdat Tryz.prog 25 = some ⟨false, 1, 24, .slice none 0 0⟩ := by kernel_rfl
theorem zv_25 : ofV (.slice none 0 0) = .sl .full [] := by kernel_rfl
theorem tel_25 : tel Tryz.prog 25 = some 64 := by kernel_rfl
theorem td_26 : tdat Tryz.prog 26 = some ⟨false, 1, 24, .slice none 0 0⟩ := by kernel_rfl
theorem zv_26 : ofV (.slice none 0 0) = .sl .full [] := by kernel_rfl
theorem tel_26 : tel Tryz.prog 26 = some 42 := by kernel_rfl
theorem td_28 : tdat Tryz.prog 28 = some ⟨true, 2, 48, .agg #[.slice none 0 0, .slice none 0 0]⟩ := by kernel_rfl
theorem zv_28 : ofV (.agg #[.slice none 0 0, .slice none 0 0]) = .ag [.sl .full [], .sl .full []] := by kernel_rfl
theorem tf_28 : tflds Tryz.prog 28 = some [(0, 1, false), (1, 1, false)] := by kernel_rfl
theorem nk_32 : nkT Tryz.prog 32 = some .nki := by kernel_rfl
theorem nk_33 : nkT Tryz.prog 33 = some .nki := by kernel_rfl
theorem td_33 : tdat Tryz.prog 33 = some ⟨false, 1, 16, .nilIface⟩ := by kernel_rfl
theorem zv_33 : ofV (.nilIface) = .v .nilIface := by kernel_rfl
theorem td_35 : tdat Tryz.prog 35 = some ⟨false, 1, 24, .slice none 0 0⟩ := by kernel_rfl
theorem zv_35 : ofV (.slice none 0 0) = .sl .full [] := by kernel_rfl
theorem tel_35 : tel Tryz.prog 35 = some 106 := by kernel_rfl
theorem td_36 : tdat Tryz.prog 36 = some ⟨false, 1, 24, .slice none 0 0⟩ := by kernel_rfl
theorem zv_36 : ofV (.slice none 0 0) = .sl .full [] := by kernel_rfl
theorem tel_36 : tel Tryz.prog 36 = some 49 := by kernel_rfl
theorem td_38 : tdat Tryz.prog 38 = some ⟨true, 2, 48, .agg #[.slice none 0 0, .slice none 0 0]⟩ := by kernel_rfl
theorem zv_38 : ofV (.agg #[.slice none 0 0, .slice none 0 0]) = .ag [.sl .full [], .sl .full []] := by kernel_rfl
theorem tf_38 : tflds Tryz.prog 38 = some [(0, 1, false), (1, 1, false)] := by kernel_rfl
theorem td_40 : tdat Tryz.prog 40 = some ⟨true, 2, 16, .agg #[.int .i64 0, .int .i64 0]⟩ := by kernel_rfl
theorem zv_40 : ofV (.agg #[.int .i64 0, .int .i64 0]) = .ag [.v (.int .i64 0), .v (.int .i64 0)] := by kernel_rfl
theorem tf_40 : tflds Tryz.prog 40 = some [(0, 1, false), (1, 1, false)] := by kernel_rfl
theorem fl_40 : flat1 Tryz.prog 40 = some [.ski, .ski] := by kernel_rfl
theorem td_42 : tdat Tryz.prog 42 = some ⟨true, 7, 128, .agg #[.string ⟨#[]⟩, .slice none 0 0, .slice none 0 0, .slice none 0 0, .slice none 0 0, .int .i64 0, .int .i64 0]⟩ := by kernel_rfl
theorem zv_42 : ofV (.agg #[.string ⟨#[]⟩, .slice none 0 0, .slice none 0 0, .slice none 0 0, .slice none 0 0, .int .i64 0, .int .i64 0]) = .ag [.v (.string ⟨#[]⟩), .sl .full [], .sl .full [], .sl .full [], .sl .full [], .v (.int .i64 0), .v (.int .i64 0)] := by kernel_rfl
theorem tf_42 : tflds Tryz.prog 42 = some [(0, 1, false), (1, 1, false), (2, 1, false), (3, 2, true), (5, 2, true)] := by kernel_rfl
theorem td_43 : tdat Tryz.prog 43 = some ⟨false, 1, 24, .slice none 0 0⟩ := by kernel_rfl
theorem zv_43 : ofV (.slice none 0 0) = .sl .full [] := by kernel_rfl
theorem tel_43 : tel Tryz.prog 43 = some 9 := by kernel_rfl
theorem td_44 : tdat Tryz.prog 44 = some ⟨false, 1, 24, .slice none 0 0⟩ := by kernel_rfl
theorem zv_44 : ofV (.slice none 0 0) = .sl .full [] := by kernel_rfl
theorem tel_44 : tel Tryz.prog 44 = some 46 := by kernel_rfl
theorem td_46 : tdat Tryz.prog 46 = some ⟨true, 8, 88, .agg #[.int .u8 0, .int .u8 0, .int .i32 0, .string ⟨#[]⟩, .slice none 0 0, .slice none 0 0, .int .i64 0, .int .i64 0]⟩ := by kernel_rfl
theorem zv_46 : ofV (.agg #[.int .u8 0, .int .u8 0, .int .i32 0, .string ⟨#[]⟩, .slice none 0 0, .slice none 0 0, .int .i64 0, .int .i64 0]) = .ag [.v (.int .u8 0), .v (.int .u8 0), .v (.int .i32 0), .v (.string ⟨#[]⟩), .sl .full [], .sl .full [], .v (.int .i64 0), .v (.int .i64 0)] := by kernel_rfl
theorem tf_46 : tflds Tryz.prog 46 = some [(0, 1, false), (1, 1, false), (2, 1, false), (3, 1, false), (4, 1, false), (5, 1, false), (6, 2, true)] := by kernel_rfl
theorem td_47 : tdat Tryz.prog 47 = some ⟨false, 1, 24, .slice none 0 0⟩ := by kernel_rfl
theorem zv_47 : ofV (.slice none 0 0) = .sl .full [] := by kernel_rfl
theorem tel_47 : tel Tryz.prog 47 = some 110 := by kernel_rfl
theorem td_49 : tdat Tryz.prog 49 = some ⟨true, 16, 208, .agg #[.int .u8 0, .slice none 0 0, .string ⟨#[]⟩, .slice none 0 0, .bool false, .int .u8 0, .int .u8 0, .int .i32 0, .string ⟨#[]⟩, .slice none 0 0, .slice none 0 0, .int .i64 0, .int .i64 0, .slice none 0 0, .int .i64 0, .int .i64 0]⟩ := by kernel_rfl
theorem zv_49 : ofV (.agg #[.int .u8 0, .slice none 0 0, .string ⟨#[]⟩, .slice none 0 0, .bool false, .int .u8 0, .int .u8 0, .int .i32 0, .string ⟨#[]⟩, .slice none 0 0, .slice none 0 0, .int .i64 0, .int .i64 0, .slice none 0 0, .int .i64 0, .int .i64 0]) = .ag [.v (.int .u8 0), .sl .full [], .v (.string ⟨#[]⟩), .sl .full [], .v (.bool false), .v (.int .u8 0), .v (.int .u8 0), .v (.int .i32 0), .v (.string ⟨#[]⟩), .sl .full [], .sl .full [], .v (.int .i64 0), .v (.int .i64 0), .sl .full [], .v (.int .i64 0), .v (.int .i64 0)] := by kernel_rfl
theorem tf_49 : tflds Tryz.prog 49 = some [(0, 1, false), (1, 1, false), (2, 1, false), (3, 1, false), (4, 1, false), (5, 8, true), (13, 1, false), (14, 2, true)] := by kernel_rfl
theorem td_51 : tdat Tryz.prog 51 = some ⟨true, 2, 24, .agg #[.int .u8 0, .string ⟨#[]⟩]⟩ := by kernel_rfl
theorem zv_51 : ofV (.agg #[.int .u8 0, .string ⟨#[]⟩]) = .ag [.v (.int .u8 0), .v (.string ⟨#[]⟩)] := by kernel_rfl
theorem tf_51 : tflds Tryz.prog 51 = some [(0, 1, false), (1, 1, false)] := by kernel_rfl
theorem fl_51 : flat1 Tryz.prog 51 = some [.ski, .sks] := by kernel_rfl
theorem td_58 : tdat Tryz.prog 58 = some ⟨false, 1, 8, .int .i64 0⟩ := by kernel_rfl
theorem zv_58 : ofV (.int .i64 0) = .v (.int .i64 0) := by kernel_rfl
theorem nk_60 : nkT Tryz.prog 60 = some .nkp := by kernel_rfl
theorem td_60 : tdat Tryz.prog 60 = some ⟨false, 1, 8, .pointer none⟩ := by kernel_rfl
theorem zv_60 : ofV (.pointer none) = .v (.pointer none) := by kernel_rfl
theorem td_62 : tdat Tryz.prog 62 = some ⟨true, 1, 8, .agg #[.int .i64 0]⟩ := by kernel_rfl
theorem zv_62 : ofV (.agg #[.int .i64 0]) = .ag [.v (.int .i64 0)] := by kernel_rfl
theorem tf_62 : tflds Tryz.prog 62 = some [(0, 1, false)] := by kernel_rfl
theorem fl_62 : flat1 Tryz.prog 62 = some [.ski] := by kernel_rfl
theorem td_64 : tdat Tryz.prog 64 = some ⟨true, 4, 56, .agg #[.string ⟨#[]⟩, .slice none 0 0, .int .i64 0, .int .i64 0]⟩ := by kernel_rfl
theorem zv_64 : ofV (.agg #[.string ⟨#[]⟩, .slice none 0 0, .int .i64 0, .int .i64 0]) = .ag [.v (.string ⟨#[]⟩), .sl .full [], .v (.int .i64 0), .v (.int .i64 0)] := by kernel_rfl
theorem tf_64 : tflds Tryz.prog 64 = some [(0, 1, false), (1, 1, false), (2, 2, true)] := by kernel_rfl
theorem nk_68 : nkT Tryz.prog 68 = some .nkp := by kernel_rfl
theorem td_68 : tdat Tryz.prog 68 = some ⟨false, 1, 8, .pointer none⟩ := by kernel_rfl
theorem zv_68 : ofV (.pointer none) = .v (.pointer none) := by kernel_rfl
theorem td_70 : tdat Tryz.prog 70 = some ⟨true, 3, 24, .agg #[.int .i64 0, .int .i64 0, .int .i64 0]⟩ := by kernel_rfl
theorem zv_70 : ofV (.agg #[.int .i64 0, .int .i64 0, .int .i64 0]) = .ag [.v (.int .i64 0), .v (.int .i64 0), .v (.int .i64 0)] := by kernel_rfl
theorem tf_70 : tflds Tryz.prog 70 = some [(0, 1, false), (1, 1, false), (2, 1, false)] := by kernel_rfl
theorem fl_70 : flat1 Tryz.prog 70 = some [.ski, .ski, .ski] := by kernel_rfl
theorem nk_71 : nkT Tryz.prog 71 = some .nkp := by kernel_rfl
theorem td_71 : tdat Tryz.prog 71 = some ⟨false, 1, 8, .pointer none⟩ := by kernel_rfl
theorem zv_71 : ofV (.pointer none) = .v (.pointer none) := by kernel_rfl
theorem td_73 : tdat Tryz.prog 73 = some ⟨true, 2, 32, .agg #[.slice none 0 0, .int .i64 0]⟩ := by kernel_rfl
theorem zv_73 : ofV (.agg #[.slice none 0 0, .int .i64 0]) = .ag [.sl .full [], .v (.int .i64 0)] := by kernel_rfl
theorem tf_73 : tflds Tryz.prog 73 = some [(0, 1, false), (1, 1, false)] := by kernel_rfl
theorem nk_75 : nkT Tryz.prog 75 = some .nkp := by kernel_rfl
theorem td_75 : tdat Tryz.prog 75 = some ⟨false, 1, 8, .pointer none⟩ := by kernel_rfl
theorem zv_75 : ofV (.pointer none) = .v (.pointer none) := by kernel_rfl
theorem td_77 : tdat Tryz.prog 77 = some ⟨true, 5, 40, .agg #[.pointer none, .int .i64 0, .int .i64 0, .int .i64 0, .bool false]⟩ := by kernel_rfl
theorem zv_77 : ofV (.agg #[.pointer none, .int .i64 0, .int .i64 0, .int .i64 0, .bool false]) = .ag [.v (.pointer none), .v (.int .i64 0), .v (.int .i64 0), .v (.int .i64 0), .v (.bool false)] := by kernel_rfl
theorem tf_77 : tflds Tryz.prog 77 = some [(0, 1, false), (1, 1, false), (2, 1, false), (3, 1, false), (4, 1, false)] := by kernel_rfl
theorem td_80 : tdat Tryz.prog 80 = some ⟨true, 1, 16, .agg #[.nilIface]⟩ := by kernel_rfl
theorem zv_80 : ofV (.agg #[.nilIface]) = .ag [.v .nilIface] := by kernel_rfl
theorem tf_80 : tflds Tryz.prog 80 = some [(0, 1, false)] := by kernel_rfl
theorem nk_81 : nkT Tryz.prog 81 = some .nkp := by kernel_rfl
theorem td_81 : tdat Tryz.prog 81 = some ⟨false, 1, 8, .pointer none⟩ := by kernel_rfl
theorem zv_81 : ofV (.pointer none) = .v (.pointer none) := by kernel_rfl
theorem td_83 : tdat Tryz.prog 83 = some ⟨true, 2, 48, .agg #[.slice none 0 0, .slice none 0 0]⟩ := by kernel_rfl
theorem zv_83 : ofV (.agg #[.slice none 0 0, .slice none 0 0]) = .ag [.sl .full [], .sl .full []] := by kernel_rfl
theorem tf_83 : tflds Tryz.prog 83 = some [(0, 2, true)] := by kernel_rfl
theorem nk_90 : nkT Tryz.prog 90 = some .nkp := by kernel_rfl
theorem td_90 : tdat Tryz.prog 90 = some ⟨false, 1, 8, .pointer none⟩ := by kernel_rfl
theorem zv_90 : ofV (.pointer none) = .v (.pointer none) := by kernel_rfl
theorem nk_91 : nkT Tryz.prog 91 = some .nkp := by kernel_rfl
theorem td_91 : tdat Tryz.prog 91 = some ⟨false, 1, 8, .pointer none⟩ := by kernel_rfl
theorem zv_91 : ofV (.pointer none) = .v (.pointer none) := by kernel_rfl
theorem td_93 : tdat Tryz.prog 93 = some ⟨true, 2, 48, .agg #[.slice none 0 0, .slice none 0 0]⟩ := by kernel_rfl
theorem zv_93 : ofV (.agg #[.slice none 0 0, .slice none 0 0]) = .ag [.sl .full [], .sl .full []] := by kernel_rfl
theorem tf_93 : tflds Tryz.prog 93 = some [(0, 2, true)] := by kernel_rfl
theorem nk_95 : nkT Tryz.prog 95 = some .nkp := by kernel_rfl
theorem td_95 : tdat Tryz.prog 95 = some ⟨false, 1, 8, .pointer none⟩ := by kernel_rfl
theorem zv_95 : ofV (.pointer none) = .v (.pointer none) := by kernel_rfl
theorem td_97 : tdat Tryz.prog 97 = some ⟨true, 5, 72, .agg #[.slice none 0 0, .slice none 0 0, .bool false, .int .i64 0, .int .i64 0]⟩ := by kernel_rfl
theorem zv_97 : ofV (.agg #[.slice none 0 0, .slice none 0 0, .bool false, .int .i64 0, .int .i64 0]) = .ag [.sl .full [], .sl .full [], .v (.bool false), .v (.int .i64 0), .v (.int .i64 0)] := by kernel_rfl
theorem tf_97 : tflds Tryz.prog 97 = some [(0, 2, true), (2, 1, false), (3, 2, true)] := by kernel_rfl
theorem nk_98 : nkT Tryz.prog 98 = some .nkp := by kernel_rfl
theorem td_98 : tdat Tryz.prog 98 = some ⟨false, 1, 8, .pointer none⟩ := by kernel_rfl
theorem zv_98 : ofV (.pointer none) = .v (.pointer none) := by kernel_rfl
theorem nk_100 : nkT Tryz.prog 100 = some .nkp := by kernel_rfl
theorem td_100 : tdat Tryz.prog 100 = some ⟨false, 1, 8, .pointer none⟩ := by kernel_rfl
theorem zv_100 : ofV (.pointer none) = .v (.pointer none) := by kernel_rfl
theorem td_102 : tdat Tryz.prog 102 = some ⟨true, 5, 56, .agg #[.int .i64 0, .int .i64 0, .string ⟨#[]⟩, .bool false, .nilIface]⟩ := by kernel_rfl
theorem zv_102 : ofV (.agg #[.int .i64 0, .int .i64 0, .string ⟨#[]⟩, .bool false, .nilIface]) = .ag [.v (.int .i64 0), .v (.int .i64 0), .v (.string ⟨#[]⟩), .v (.bool false), .v .nilIface] := by kernel_rfl
theorem tf_102 : tflds Tryz.prog 102 = some [(0, 2, true), (2, 1, false), (3, 1, false), (4, 1, false)] := by kernel_rfl
theorem td_104 : tdat Tryz.prog 104 = some ⟨false, 1, 24, .slice none 0 0⟩ := by kernel_rfl
theorem zv_104 : ofV (.slice none 0 0) = .sl .full [] := by kernel_rfl
theorem tel_104 : tel Tryz.prog 104 = some 113 := by kernel_rfl
theorem td_106 : tdat Tryz.prog 106 = some ⟨true, 15, 176, .agg #[.string ⟨#[]⟩, .int .u8 0, .string ⟨#[]⟩, .slice none 0 0, .bool false, .int .u8 0, .int .u8 0, .int .i32 0, .string ⟨#[]⟩, .slice none 0 0, .slice none 0 0, .int .i64 0, .int .i64 0, .int .i64 0, .int .i64 0]⟩ := by kernel_rfl
theorem zv_106 : ofV (.agg #[.string ⟨#[]⟩, .int .u8 0, .string ⟨#[]⟩, .slice none 0 0, .bool false, .int .u8 0, .int .u8 0, .int .i32 0, .string ⟨#[]⟩, .slice none 0 0, .slice none 0 0, .int .i64 0, .int .i64 0, .int .i64 0, .int .i64 0]) = .ag [.v (.string ⟨#[]⟩), .v (.int .u8 0), .v (.string ⟨#[]⟩), .sl .full [], .v (.bool false), .v (.int .u8 0), .v (.int .u8 0), .v (.int .i32 0), .v (.string ⟨#[]⟩), .sl .full [], .sl .full [], .v (.int .i64 0), .v (.int .i64 0), .v (.int .i64 0), .v (.int .i64 0)] := by kernel_rfl
theorem tf_106 : tflds Tryz.prog 106 = some [(0, 1, false), (1, 2, true), (3, 1, false), (4, 1, false), (5, 8, true), (13, 2, true)] := by kernel_rfl
theorem td_108 : tdat Tryz.prog 108 = some ⟨false, 1, 24, .slice none 0 0⟩ := by kernel_rfl
theorem zv_108 : ofV (.slice none 0 0) = .sl .full [] := by kernel_rfl
theorem tel_108 : tel Tryz.prog 108 = some 160 := by kernel_rfl
theorem td_110 : tdat Tryz.prog 110 = some ⟨true, 7, 128, .agg #[.string ⟨#[]⟩, .slice none 0 0, .slice none 0 0, .slice none 0 0, .slice none 0 0, .int .i64 0, .int .i64 0]⟩ := by kernel_rfl
theorem zv_110 : ofV (.agg #[.string ⟨#[]⟩, .slice none 0 0, .slice none 0 0, .slice none 0 0, .slice none 0 0, .int .i64 0, .int .i64 0]) = .ag [.v (.string ⟨#[]⟩), .sl .full [], .sl .full [], .sl .full [], .sl .full [], .v (.int .i64 0), .v (.int .i64 0)] := by kernel_rfl
theorem tf_110 : tflds Tryz.prog 110 = some [(0, 1, false), (1, 2, true), (3, 1, false), (4, 1, false), (5, 2, true)] := by kernel_rfl
theorem td_113 : tdat Tryz.prog 113 = some ⟨true, 2, 32, .agg #[.string ⟨#[]⟩, .string ⟨#[]⟩]⟩ := by kernel_rfl
theorem zv_113 : ofV (.agg #[.string ⟨#[]⟩, .string ⟨#[]⟩]) = .ag [.v (.string ⟨#[]⟩), .v (.string ⟨#[]⟩)] := by kernel_rfl
theorem tf_113 : tflds Tryz.prog 113 = some [(0, 1, false), (1, 1, false)] := by kernel_rfl
theorem fl_113 : flat1 Tryz.prog 113 = some [.sks, .sks] := by kernel_rfl
theorem td_118 : tdat Tryz.prog 118 = some ⟨true, 3, 72, .agg #[.slice none 0 0, .slice none 0 0, .slice none 0 0]⟩ := by kernel_rfl
theorem zv_118 : ofV (.agg #[.slice none 0 0, .slice none 0 0, .slice none 0 0]) = .ag [.sl .full [], .sl .full [], .sl .full []] := by kernel_rfl
theorem tf_118 : tflds Tryz.prog 118 = some [(0, 1, false), (1, 1, false), (2, 1, false)] := by kernel_rfl
theorem nk_122 : nkT Tryz.prog 122 = some .nkf := by kernel_rfl
theorem td_125 : tdat Tryz.prog 125 = some ⟨true, 2, 48, .agg #[.slice none 0 0, .slice none 0 0]⟩ := by kernel_rfl
theorem zv_125 : ofV (.agg #[.slice none 0 0, .slice none 0 0]) = .ag [.sl .full [], .sl .full []] := by kernel_rfl
theorem tf_125 : tflds Tryz.prog 125 = some [(0, 1, false), (1, 1, false)] := by kernel_rfl
theorem td_132 : tdat Tryz.prog 132 = some ⟨true, 1, 16, .agg #[.nilIface]⟩ := by kernel_rfl
theorem zv_132 : ofV (.agg #[.nilIface]) = .ag [.v .nilIface] := by kernel_rfl
theorem tf_132 : tflds Tryz.prog 132 = some [(0, 1, false)] := by kernel_rfl
theorem td_133 : tdat Tryz.prog 133 = some ⟨false, 1, 24, .slice none 0 0⟩ := by kernel_rfl
theorem zv_133 : ofV (.slice none 0 0) = .sl .full [] := by kernel_rfl
theorem tel_133 : tel Tryz.prog 133 = some 51 := by kernel_rfl
theorem nk_150 : nkT Tryz.prog 150 = some .nki := by kernel_rfl
theorem nk_151 : nkT Tryz.prog 151 = some .nki := by kernel_rfl
theorem td_160 : tdat Tryz.prog 160 = some ⟨true, 12, 128, .agg #[.int .u8 0, .int .u8 0, .int .i32 0, .string ⟨#[]⟩, .slice none 0 0, .slice none 0 0, .int .i64 0, .int .i64 0, .string ⟨#[]⟩, .bool false, .int .i64 0, .int .i64 0]⟩ := by kernel_rfl
theorem zv_160 : ofV (.agg #[.int .u8 0, .int .u8 0, .int .i32 0, .string ⟨#[]⟩, .slice none 0 0, .slice none 0 0, .int .i64 0, .int .i64 0, .string ⟨#[]⟩, .bool false, .int .i64 0, .int .i64 0]) = .ag [.v (.int .u8 0), .v (.int .u8 0), .v (.int .i32 0), .v (.string ⟨#[]⟩), .sl .full [], .sl .full [], .v (.int .i64 0), .v (.int .i64 0), .v (.string ⟨#[]⟩), .v (.bool false), .v (.int .i64 0), .v (.int .i64 0)] := by kernel_rfl
theorem tf_160 : tflds Tryz.prog 160 = some [(0, 8, true), (8, 1, false), (9, 1, false), (10, 2, true)] := by kernel_rfl
theorem td_161 : tdat Tryz.prog 161 = some ⟨false, 1, 24, .slice none 0 0⟩ := by kernel_rfl
theorem zv_161 : ofV (.slice none 0 0) = .sl .full [] := by kernel_rfl
theorem tel_161 : tel Tryz.prog 161 = some 21 := by kernel_rfl
theorem nk_168 : nkT Tryz.prog 168 = some .nkf := by kernel_rfl
theorem td_169 : tdat Tryz.prog 169 = some ⟨false, 1, 24, .slice none 0 0⟩ := by kernel_rfl
theorem zv_169 : ofV (.slice none 0 0) = .sl .full [] := by kernel_rfl
theorem tel_169 : tel Tryz.prog 169 = some 35 := by kernel_rfl
theorem nk_172 : nkT Tryz.prog 172 = some .nkf := by kernel_rfl
theorem nk_178 : nkT Tryz.prog 178 = some .nkf := by kernel_rfl
theorem nk_182 : nkT Tryz.prog 182 = some .nkp := by kernel_rfl
theorem nk_185 : nkT Tryz.prog 185 = some .nki := by kernel_rfl
theorem nk_188 : nkT Tryz.prog 188 = some .nki := by kernel_rfl
theorem nk_190 : nkT Tryz.prog 190 = some .nki := by kernel_rfl
theorem nk_193 : nkT Tryz.prog 193 = some .nki := by kernel_rfl
theorem td_204 : tdat Tryz.prog 204 = some ⟨false, 1, 24, .slice none 0 0⟩ := by kernel_rfl
theorem zv_204 : ofV (.slice none 0 0) = .sl .full [] := by kernel_rfl
theorem tel_204 : tel Tryz.prog 204 = some 43 := by kernel_rfl
theorem nk_206 : nkT Tryz.prog 206 = some .nkf := by kernel_rfl
theorem nk_220 : nkT Tryz.prog 220 = some .nkp := by kernel_rfl
theorem nk_230 : nkT Tryz.prog 230 = some .nkp := by kernel_rfl
set_option linter.defProp false
def tfA0 := And.intro @td_3 (And.intro @zv_3 (And.intro @Tryz.underlying3 (And.intro @td_4 (And.intro @zv_4 (And.intro @Tryz.underlying4 (And.intro @td_5 (And.intro @zv_5 (And.intro @Tryz.underlying5 (And.intro @td_9 (And.intro @zv_9 (And.intro @Tryz.underlying9 (And.intro @nk_15 (And.intro @nk_16 (And.intro @nk_17 (And.intro @nk_20 (And.intro @td_20 (And.intro @zv_20 (And.intro @td_21 (And.intro @zv_21 (And.intro @Tryz.underlying21 (And.intro @td_22 (And.intro @zv_22 (And.intro @tel_22 (And.intro @Tryz.underlying22 (And.intro @td_23 (And.intro @zv_23 (And.intro @Tryz.underlying23 (And.intro @td_25 @zv_25))))))))))))))))))))))))))))
def tfA1 := And.intro @tel_25 (And.intro @Tryz.underlying25 (And.intro @td_26 (And.intro @zv_26 (And.intro @tel_26 (And.intro @Tryz.underlying26 (And.intro @td_28 (And.intro @zv_28 (And.intro @tf_28 (And.intro @nk_32 (And.intro @nk_33 (And.intro @td_33 (And.intro @zv_33 (And.intro @td_35 (And.intro @zv_35 (And.intro @tel_35 (And.intro @Tryz.underlying35 (And.intro @td_36 (And.intro @zv_36 (And.intro @tel_36 (And.intro @Tryz.underlying36 (And.intro @td_38 (And.intro @zv_38 (And.intro @tf_38 (And.intro @td_40 (And.intro @zv_40 (And.intro @tf_40 (And.intro @fl_40 (And.intro @td_42 @zv_42))))))))))))))))))))))))))))
def tfA2 := And.intro @tf_42 (And.intro @td_43 (And.intro @zv_43 (And.intro @tel_43 (And.intro @Tryz.underlying43 (And.intro @td_44 (And.intro @zv_44 (And.intro @tel_44 (And.intro @Tryz.underlying44 (And.intro @td_46 (And.intro @zv_46 (And.intro @tf_46 (And.intro @td_47 (And.intro @zv_47 (And.intro @tel_47 (And.intro @Tryz.underlying47 (And.intro @td_49 (And.intro @zv_49 (And.intro @tf_49 (And.intro @td_51 (And.intro @zv_51 (And.intro @tf_51 (And.intro @fl_51 (And.intro @td_58 (And.intro @zv_58 (And.intro @Tryz.underlying58 (And.intro @nk_60 (And.intro @td_60 (And.intro @zv_60 @Tryz.underlying60))))))))))))))))))))))))))))
def tfA3 := And.intro @td_62 (And.intro @zv_62 (And.intro @tf_62 (And.intro @fl_62 (And.intro @td_64 (And.intro @zv_64 (And.intro @tf_64 (And.intro @nk_68 (And.intro @td_68 (And.intro @zv_68 (And.intro @Tryz.underlying68 (And.intro @td_70 (And.intro @zv_70 (And.intro @tf_70 (And.intro @fl_70 (And.intro @nk_71 (And.intro @td_71 (And.intro @zv_71 (And.intro @Tryz.underlying71 (And.intro @td_73 (And.intro @zv_73 (And.intro @tf_73 (And.intro @nk_75 (And.intro @td_75 (And.intro @zv_75 (And.intro @Tryz.underlying75 (And.intro @td_77 (And.intro @zv_77 (And.intro @tf_77 @td_80))))))))))))))))))))))))))))
def tfA4 := And.intro @zv_80 (And.intro @tf_80 (And.intro @nk_81 (And.intro @td_81 (And.intro @zv_81 (And.intro @Tryz.underlying81 (And.intro @td_83 (And.intro @zv_83 (And.intro @tf_83 (And.intro @nk_90 (And.intro @td_90 (And.intro @zv_90 (And.intro @Tryz.underlying90 (And.intro @nk_91 (And.intro @td_91 (And.intro @zv_91 (And.intro @Tryz.underlying91 (And.intro @td_93 (And.intro @zv_93 (And.intro @tf_93 (And.intro @nk_95 (And.intro @td_95 (And.intro @zv_95 (And.intro @Tryz.underlying95 (And.intro @td_97 (And.intro @zv_97 (And.intro @tf_97 (And.intro @nk_98 (And.intro @td_98 @zv_98))))))))))))))))))))))))))))
def tfA5 := And.intro @Tryz.underlying98 (And.intro @nk_100 (And.intro @td_100 (And.intro @zv_100 (And.intro @Tryz.underlying100 (And.intro @td_102 (And.intro @zv_102 (And.intro @tf_102 (And.intro @td_104 (And.intro @zv_104 (And.intro @tel_104 (And.intro @Tryz.underlying104 (And.intro @td_106 (And.intro @zv_106 (And.intro @tf_106 (And.intro @td_108 (And.intro @zv_108 (And.intro @tel_108 (And.intro @Tryz.underlying108 (And.intro @td_110 (And.intro @zv_110 (And.intro @tf_110 (And.intro @td_113 (And.intro @zv_113 (And.intro @tf_113 (And.intro @fl_113 (And.intro @td_118 (And.intro @zv_118 (And.intro @tf_118 @nk_122))))))))))))))))))))))))))))
def tfA6 := And.intro @td_125 (And.intro @zv_125 (And.intro @tf_125 (And.intro @td_132 (And.intro @zv_132 (And.intro @tf_132 (And.intro @td_133 (And.intro @zv_133 (And.intro @tel_133 (And.intro @Tryz.underlying133 (And.intro @nk_150 (And.intro @nk_151 (And.intro @td_160 (And.intro @zv_160 (And.intro @tf_160 (And.intro @td_161 (And.intro @zv_161 (And.intro @tel_161 (And.intro @Tryz.underlying161 (And.intro @nk_168 (And.intro @td_169 (And.intro @zv_169 (And.intro @tel_169 (And.intro @Tryz.underlying169 (And.intro @nk_172 (And.intro @nk_178 (And.intro @nk_182 (And.intro @nk_185 (And.intro @nk_188 @nk_190))))))))))))))))))))))))))))
def tfA7 := And.intro @nk_193 (And.intro @td_204 (And.intro @zv_204 (And.intro @tel_204 (And.intro @Tryz.underlying204 (And.intro @nk_206 (And.intro @nk_220 @nk_230))))))
def tfA := And.intro @tfA0 (And.intro @tfA1 (And.intro @tfA2 (And.intro @tfA3 (And.intro @tfA4 (And.intro @tfA5 (And.intro @tfA6 @tfA7))))))
end Go.Proofs.YthhhnfjcaicjnaaGreatDoor
