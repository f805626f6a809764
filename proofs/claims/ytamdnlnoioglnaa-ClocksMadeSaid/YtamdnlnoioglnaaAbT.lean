/-
  Closed facts on the types of this seat.
-/
import Derived.Test.YtamdnlnoioglnaaRows
import Derived.Test.YtamdnlnoioglnaaAbFn
import Derived.KernelRfl
namespace Go.Proofs.Ytamdnlnoioglnaa
open Go Go.RowKit
theorem ok_mix : Try.prog.follows .mixedOrders = true := by kernel_rfl
theorem td_3 : tdat Try.prog 3 = some ⟨false, 1, 8, .int .i64 0⟩ := by kernel_rfl
theorem zv_3 : ofV (.int .i64 0) = .v (.int .i64 0) := by kernel_rfl
theorem td_4 : tdat Try.prog 4 = some ⟨false, 1, 1, .bool false⟩ := by kernel_rfl
theorem zv_4 : ofV (.bool false) = .v (.bool false) := by kernel_rfl
theorem td_5 : tdat Try.prog 5 = some ⟨false, 1, 1, .int .u8 0⟩ := by kernel_rfl
theorem zv_5 : ofV (.int .u8 0) = .v (.int .u8 0) := by kernel_rfl
theorem td_9 : tdat Try.prog 9 = some ⟨false, 1, 16, .string ⟨#[]⟩⟩ := by kernel_rfl
theorem zv_9 : ofV (.string ⟨#[]⟩) = .v (.string ⟨#[]⟩) := by kernel_rfl
theorem td_21 : tdat Try.prog 21 = some ⟨false, 1, 4, .int .i32 0⟩ := by kernel_rfl
theorem zv_21 : ofV (.int .i32 0) = .v (.int .i32 0) := by kernel_rfl
theorem td_22 : tdat Try.prog 22 = some ⟨false, 1, 24, .slice none 0 0⟩ := by kernel_rfl
theorem zv_22 : ofV (.slice none 0 0) = .sl .full [] := by kernel_rfl
theorem tel_22 : tel Try.prog 22 = some 5 := by kernel_rfl
theorem nk_25 : nkT Try.prog 25 = some .nki := by kernel_rfl
theorem td_25 : tdat Try.prog 25 = some ⟨false, 1, 16, .nilIface⟩ := by kernel_rfl
theorem zv_25 : ofV (.nilIface) = .v .nilIface := by kernel_rfl
theorem td_27 : tdat Try.prog 27 = some ⟨false, 1, 24, .slice none 0 0⟩ := by kernel_rfl
theorem zv_27 : ofV (.slice none 0 0) = .sl .full [] := by kernel_rfl
theorem tel_27 : tel Try.prog 27 = some 72 := by kernel_rfl
theorem td_28 : tdat Try.prog 28 = some ⟨false, 1, 24, .slice none 0 0⟩ := by kernel_rfl
theorem zv_28 : ofV (.slice none 0 0) = .sl .full [] := by kernel_rfl
theorem tel_28 : tel Try.prog 28 = some 55 := by kernel_rfl
theorem td_30 : tdat Try.prog 30 = some ⟨true, 2, 48, .agg #[.slice none 0 0, .slice none 0 0]⟩ := by kernel_rfl
theorem zv_30 : ofV (.agg #[.slice none 0 0, .slice none 0 0]) = .ag [.sl .full [], .sl .full []] := by kernel_rfl
theorem tf_30 : tflds Try.prog 30 = some [(0, 1, false), (1, 1, false)] := by kernel_rfl
theorem td_33 : tdat Try.prog 33 = some ⟨false, 1, 24, .slice none 0 0⟩ := by kernel_rfl
theorem zv_33 : ofV (.slice none 0 0) = .sl .full [] := by kernel_rfl
theorem tel_33 : tel Try.prog 33 = some 79 := by kernel_rfl
theorem td_36 : tdat Try.prog 36 = some ⟨false, 1, 24, .slice none 0 0⟩ := by kernel_rfl
theorem zv_36 : ofV (.slice none 0 0) = .sl .full [] := by kernel_rfl
theorem tel_36 : tel Try.prog 36 = some 9 := by kernel_rfl
theorem td_37 : tdat Try.prog 37 = some ⟨false, 1, 24, .slice none 0 0⟩ := by kernel_rfl
theorem zv_37 : ofV (.slice none 0 0) = .sl .full [] := by kernel_rfl
theorem tel_37 : tel Try.prog 37 = some 41 := by kernel_rfl
theorem td_39 : tdat Try.prog 39 = some ⟨true, 2, 16, .agg #[.int .i64 0, .int .i64 0]⟩ := by kernel_rfl
theorem zv_39 : ofV (.agg #[.int .i64 0, .int .i64 0]) = .ag [.v (.int .i64 0), .v (.int .i64 0)] := by kernel_rfl
theorem tf_39 : tflds Try.prog 39 = some [(0, 1, false), (1, 1, false)] := by kernel_rfl
theorem fl_39 : flat1 Try.prog 39 = some [.ski, .ski] := by kernel_rfl
theorem td_41 : tdat Try.prog 41 = some ⟨true, 8, 88, .agg #[.int .u8 0, .int .u8 0, .int .i32 0, .string ⟨#[]⟩, .slice none 0 0, .slice none 0 0, .int .i64 0, .int .i64 0]⟩ := by kernel_rfl
theorem zv_41 : ofV (.agg #[.int .u8 0, .int .u8 0, .int .i32 0, .string ⟨#[]⟩, .slice none 0 0, .slice none 0 0, .int .i64 0, .int .i64 0]) = .ag [.v (.int .u8 0), .v (.int .u8 0), .v (.int .i32 0), .v (.string ⟨#[]⟩), .sl .full [], .sl .full [], .v (.int .i64 0), .v (.int .i64 0)] := by kernel_rfl
theorem tf_41 : tflds Try.prog 41 = some [(0, 1, false), (1, 1, false), (2, 1, false), (3, 1, false), (4, 1, false), (5, 1, false), (6, 2, true)] := by kernel_rfl
theorem td_50 : tdat Try.prog 50 = some ⟨false, 1, 24, .slice none 0 0⟩ := by kernel_rfl
theorem zv_50 : ofV (.slice none 0 0) = .sl .full [] := by kernel_rfl
theorem tel_50 : tel Try.prog 50 = some 63 := by kernel_rfl
theorem td_51 : tdat Try.prog 51 = some ⟨false, 1, 24, .slice none 0 0⟩ := by kernel_rfl
theorem zv_51 : ofV (.slice none 0 0) = .sl .full [] := by kernel_rfl
theorem tel_51 : tel Try.prog 51 = some 82 := by kernel_rfl
theorem td_53 : tdat Try.prog 53 = some ⟨true, 2, 48, .agg #[.slice none 0 0, .slice none 0 0]⟩ := by kernel_rfl
theorem zv_53 : ofV (.agg #[.slice none 0 0, .slice none 0 0]) = .ag [.sl .full [], .sl .full []] := by kernel_rfl
theorem tf_53 : tflds Try.prog 53 = some [(0, 1, false), (1, 1, false)] := by kernel_rfl
theorem td_55 : tdat Try.prog 55 = some ⟨true, 7, 128, .agg #[.string ⟨#[]⟩, .slice none 0 0, .slice none 0 0, .slice none 0 0, .slice none 0 0, .int .i64 0, .int .i64 0]⟩ := by kernel_rfl
theorem zv_55 : ofV (.agg #[.string ⟨#[]⟩, .slice none 0 0, .slice none 0 0, .slice none 0 0, .slice none 0 0, .int .i64 0, .int .i64 0]) = .ag [.v (.string ⟨#[]⟩), .sl .full [], .sl .full [], .sl .full [], .sl .full [], .v (.int .i64 0), .v (.int .i64 0)] := by kernel_rfl
theorem tf_55 : tflds Try.prog 55 = some [(0, 1, false), (1, 1, false), (2, 1, false), (3, 2, true), (5, 2, true)] := by kernel_rfl
theorem td_56 : tdat Try.prog 56 = some ⟨false, 1, 24, .slice none 0 0⟩ := by kernel_rfl
theorem zv_56 : ofV (.slice none 0 0) = .sl .full [] := by kernel_rfl
theorem tel_56 : tel Try.prog 56 = some 66 := by kernel_rfl
theorem td_58 : tdat Try.prog 58 = some ⟨true, 2, 32, .agg #[.slice none 0 0, .int .i64 0]⟩ := by kernel_rfl
theorem zv_58 : ofV (.agg #[.slice none 0 0, .int .i64 0]) = .ag [.sl .full [], .v (.int .i64 0)] := by kernel_rfl
theorem tf_58 : tflds Try.prog 58 = some [(0, 1, false), (1, 1, false)] := by kernel_rfl
theorem td_61 : tdat Try.prog 61 = some ⟨true, 2, 24, .agg #[.int .u8 0, .string ⟨#[]⟩]⟩ := by kernel_rfl
theorem zv_61 : ofV (.agg #[.int .u8 0, .string ⟨#[]⟩]) = .ag [.v (.int .u8 0), .v (.string ⟨#[]⟩)] := by kernel_rfl
theorem tf_61 : tflds Try.prog 61 = some [(0, 1, false), (1, 1, false)] := by kernel_rfl
theorem fl_61 : flat1 Try.prog 61 = some [.ski, .sks] := by kernel_rfl
theorem td_63 : tdat Try.prog 63 = some ⟨true, 15, 176, .agg #[.string ⟨#[]⟩, .int .u8 0, .string ⟨#[]⟩, .slice none 0 0, .bool false, .int .u8 0, .int .u8 0, .int .i32 0, .string ⟨#[]⟩, .slice none 0 0, .slice none 0 0, .int .i64 0, .int .i64 0, .int .i64 0, .int .i64 0]⟩ := by kernel_rfl
theorem zv_63 : ofV (.agg #[.string ⟨#[]⟩, .int .u8 0, .string ⟨#[]⟩, .slice none 0 0, .bool false, .int .u8 0, .int .u8 0, .int .i32 0, .string ⟨#[]⟩, .slice none 0 0, .slice none 0 0, .int .i64 0, .int .i64 0, .int .i64 0, .int .i64 0]) = .ag [.v (.string ⟨#[]⟩), .v (.int .u8 0), .v (.string ⟨#[]⟩), .sl .full [], .v (.bool false), .v (.int .u8 0), .v (.int .u8 0), .v (.int .i32 0), .v (.string ⟨#[]⟩), .sl .full [], .sl .full [], .v (.int .i64 0), .v (.int .i64 0), .v (.int .i64 0), .v (.int .i64 0)] := by kernel_rfl
theorem tf_63 : tflds Try.prog 63 = some [(0, 1, false), (1, 2, true), (3, 1, false), (4, 1, false), (5, 8, true), (13, 2, true)] := by kernel_rfl
theorem td_66 : tdat Try.prog 66 = some ⟨true, 3, 48, .agg #[.string ⟨#[]⟩, .int .i64 0, .slice none 0 0]⟩ := by kernel_rfl
theorem zv_66 : ofV (.agg #[.string ⟨#[]⟩, .int .i64 0, .slice none 0 0]) = .ag [.v (.string ⟨#[]⟩), .v (.int .i64 0), .sl .full []] := by kernel_rfl
theorem tf_66 : tflds Try.prog 66 = some [(0, 1, false), (1, 1, false), (2, 1, false)] := by kernel_rfl
theorem nk_68 : nkT Try.prog 68 = some .nkp := by kernel_rfl
theorem td_68 : tdat Try.prog 68 = some ⟨false, 1, 8, .pointer none⟩ := by kernel_rfl
theorem zv_68 : ofV (.pointer none) = .v (.pointer none) := by kernel_rfl
theorem td_70 : tdat Try.prog 70 = some ⟨true, 2, 32, .agg #[.slice none 0 0, .int .i64 0]⟩ := by kernel_rfl
theorem zv_70 : ofV (.agg #[.slice none 0 0, .int .i64 0]) = .ag [.sl .full [], .v (.int .i64 0)] := by kernel_rfl
theorem tf_70 : tflds Try.prog 70 = some [(0, 1, false), (1, 1, false)] := by kernel_rfl
theorem td_72 : tdat Try.prog 72 = some ⟨true, 4, 56, .agg #[.string ⟨#[]⟩, .slice none 0 0, .int .i64 0, .int .i64 0]⟩ := by kernel_rfl
theorem zv_72 : ofV (.agg #[.string ⟨#[]⟩, .slice none 0 0, .int .i64 0, .int .i64 0]) = .ag [.v (.string ⟨#[]⟩), .sl .full [], .v (.int .i64 0), .v (.int .i64 0)] := by kernel_rfl
theorem tf_72 : tflds Try.prog 72 = some [(0, 1, false), (1, 1, false), (2, 2, true)] := by kernel_rfl
theorem nk_74 : nkT Try.prog 74 = some .nkp := by kernel_rfl
theorem td_74 : tdat Try.prog 74 = some ⟨false, 1, 8, .pointer none⟩ := by kernel_rfl
theorem zv_74 : ofV (.pointer none) = .v (.pointer none) := by kernel_rfl
theorem td_76 : tdat Try.prog 76 = some ⟨true, 5, 40, .agg #[.pointer none, .int .i64 0, .int .i64 0, .int .i64 0, .bool false]⟩ := by kernel_rfl
theorem zv_76 : ofV (.agg #[.pointer none, .int .i64 0, .int .i64 0, .int .i64 0, .bool false]) = .ag [.v (.pointer none), .v (.int .i64 0), .v (.int .i64 0), .v (.int .i64 0), .v (.bool false)] := by kernel_rfl
theorem tf_76 : tflds Try.prog 76 = some [(0, 1, false), (1, 1, false), (2, 1, false), (3, 1, false), (4, 1, false)] := by kernel_rfl
theorem td_79 : tdat Try.prog 79 = some ⟨true, 2, 32, .agg #[.string ⟨#[]⟩, .string ⟨#[]⟩]⟩ := by kernel_rfl
theorem zv_79 : ofV (.agg #[.string ⟨#[]⟩, .string ⟨#[]⟩]) = .ag [.v (.string ⟨#[]⟩), .v (.string ⟨#[]⟩)] := by kernel_rfl
theorem tf_79 : tflds Try.prog 79 = some [(0, 1, false), (1, 1, false)] := by kernel_rfl
theorem fl_79 : flat1 Try.prog 79 = some [.sks, .sks] := by kernel_rfl
theorem td_80 : tdat Try.prog 80 = some ⟨false, 1, 24, .slice none 0 0⟩ := by kernel_rfl
theorem zv_80 : ofV (.slice none 0 0) = .sl .full [] := by kernel_rfl
theorem tel_80 : tel Try.prog 80 = some 130 := by kernel_rfl
theorem td_82 : tdat Try.prog 82 = some ⟨true, 16, 208, .agg #[.int .u8 0, .slice none 0 0, .string ⟨#[]⟩, .slice none 0 0, .bool false, .int .u8 0, .int .u8 0, .int .i32 0, .string ⟨#[]⟩, .slice none 0 0, .slice none 0 0, .int .i64 0, .int .i64 0, .slice none 0 0, .int .i64 0, .int .i64 0]⟩ := by kernel_rfl
theorem zv_82 : ofV (.agg #[.int .u8 0, .slice none 0 0, .string ⟨#[]⟩, .slice none 0 0, .bool false, .int .u8 0, .int .u8 0, .int .i32 0, .string ⟨#[]⟩, .slice none 0 0, .slice none 0 0, .int .i64 0, .int .i64 0, .slice none 0 0, .int .i64 0, .int .i64 0]) = .ag [.v (.int .u8 0), .sl .full [], .v (.string ⟨#[]⟩), .sl .full [], .v (.bool false), .v (.int .u8 0), .v (.int .u8 0), .v (.int .i32 0), .v (.string ⟨#[]⟩), .sl .full [], .sl .full [], .v (.int .i64 0), .v (.int .i64 0), .sl .full [], .v (.int .i64 0), .v (.int .i64 0)] := by kernel_rfl
theorem tf_82 : tflds Try.prog 82 = some [(0, 1, false), (1, 1, false), (2, 1, false), (3, 1, false), (4, 1, false), (5, 8, true), (13, 1, false), (14, 2, true)] := by kernel_rfl
theorem td_92 : tdat Try.prog 92 = some ⟨false, 1, 24, .slice none 0 0⟩ := by kernel_rfl
theorem zv_92 : ofV (.slice none 0 0) = .sl .full [] := by kernel_rfl
theorem tel_92 : tel Try.prog 92 = some 50 := by kernel_rfl
theorem nk_95 : nkT Try.prog 95 = some .nkf := by kernel_rfl
theorem td_103 : tdat Try.prog 103 = some ⟨true, 3, 72, .agg #[.slice none 0 0, .slice none 0 0, .slice none 0 0]⟩ := by kernel_rfl
theorem zv_103 : ofV (.agg #[.slice none 0 0, .slice none 0 0, .slice none 0 0]) = .ag [.sl .full [], .sl .full [], .sl .full []] := by kernel_rfl
theorem tf_103 : tflds Try.prog 103 = some [(0, 1, false), (1, 1, false), (2, 1, false)] := by kernel_rfl
theorem td_111 : tdat Try.prog 111 = some ⟨false, 1, 24, .slice none 0 0⟩ := by kernel_rfl
theorem zv_111 : ofV (.slice none 0 0) = .sl .full [] := by kernel_rfl
theorem tel_111 : tel Try.prog 111 = some 116 := by kernel_rfl
theorem td_116 : tdat Try.prog 116 = some ⟨true, 12, 128, .agg #[.int .u8 0, .int .u8 0, .int .i32 0, .string ⟨#[]⟩, .slice none 0 0, .slice none 0 0, .int .i64 0, .int .i64 0, .string ⟨#[]⟩, .bool false, .int .i64 0, .int .i64 0]⟩ := by kernel_rfl
theorem zv_116 : ofV (.agg #[.int .u8 0, .int .u8 0, .int .i32 0, .string ⟨#[]⟩, .slice none 0 0, .slice none 0 0, .int .i64 0, .int .i64 0, .string ⟨#[]⟩, .bool false, .int .i64 0, .int .i64 0]) = .ag [.v (.int .u8 0), .v (.int .u8 0), .v (.int .i32 0), .v (.string ⟨#[]⟩), .sl .full [], .sl .full [], .v (.int .i64 0), .v (.int .i64 0), .v (.string ⟨#[]⟩), .v (.bool false), .v (.int .i64 0), .v (.int .i64 0)] := by kernel_rfl
theorem tf_116 : tflds Try.prog 116 = some [(0, 8, true), (8, 1, false), (9, 1, false), (10, 2, true)] := by kernel_rfl
theorem td_130 : tdat Try.prog 130 = some ⟨true, 7, 128, .agg #[.string ⟨#[]⟩, .slice none 0 0, .slice none 0 0, .slice none 0 0, .slice none 0 0, .int .i64 0, .int .i64 0]⟩ := by kernel_rfl
theorem zv_130 : ofV (.agg #[.string ⟨#[]⟩, .slice none 0 0, .slice none 0 0, .slice none 0 0, .slice none 0 0, .int .i64 0, .int .i64 0]) = .ag [.v (.string ⟨#[]⟩), .sl .full [], .sl .full [], .sl .full [], .sl .full [], .v (.int .i64 0), .v (.int .i64 0)] := by kernel_rfl
theorem tf_130 : tflds Try.prog 130 = some [(0, 1, false), (1, 2, true), (3, 1, false), (4, 1, false), (5, 2, true)] := by kernel_rfl
theorem td_132 : tdat Try.prog 132 = some ⟨false, 1, 24, .slice none 0 0⟩ := by kernel_rfl
theorem zv_132 : ofV (.slice none 0 0) = .sl .full [] := by kernel_rfl
theorem tel_132 : tel Try.prog 132 = some 21 := by kernel_rfl
set_option linter.defProp false
def tfA0 := And.intro @td_3 (And.intro @zv_3 (And.intro @Try.underlying3 (And.intro @td_4 (And.intro @zv_4 (And.intro @Try.underlying4 (And.intro @td_5 (And.intro @zv_5 (And.intro @Try.underlying5 (And.intro @td_9 (And.intro @zv_9 (And.intro @Try.underlying9 (And.intro @td_21 (And.intro @zv_21 (And.intro @Try.underlying21 (And.intro @td_22 (And.intro @zv_22 (And.intro @tel_22 (And.intro @Try.underlying22 (And.intro @nk_25 (And.intro @td_25 (And.intro @zv_25 (And.intro @td_27 (And.intro @zv_27 (And.intro @tel_27 (And.intro @Try.underlying27 (And.intro @td_28 (And.intro @zv_28 (And.intro @tel_28 @Try.underlying28))))))))))))))))))))))))))))
def tfA1 := And.intro @td_30 (And.intro @zv_30 (And.intro @tf_30 (And.intro @td_33 (And.intro @zv_33 (And.intro @tel_33 (And.intro @Try.underlying33 (And.intro @td_36 (And.intro @zv_36 (And.intro @tel_36 (And.intro @Try.underlying36 (And.intro @td_37 (And.intro @zv_37 (And.intro @tel_37 (And.intro @Try.underlying37 (And.intro @td_39 (And.intro @zv_39 (And.intro @tf_39 (And.intro @fl_39 (And.intro @td_41 (And.intro @zv_41 (And.intro @tf_41 (And.intro @td_50 (And.intro @zv_50 (And.intro @tel_50 (And.intro @Try.underlying50 (And.intro @td_51 (And.intro @zv_51 (And.intro @tel_51 @Try.underlying51))))))))))))))))))))))))))))
def tfA2 := And.intro @td_53 (And.intro @zv_53 (And.intro @tf_53 (And.intro @td_55 (And.intro @zv_55 (And.intro @tf_55 (And.intro @td_56 (And.intro @zv_56 (And.intro @tel_56 (And.intro @Try.underlying56 (And.intro @td_58 (And.intro @zv_58 (And.intro @tf_58 (And.intro @td_61 (And.intro @zv_61 (And.intro @tf_61 (And.intro @fl_61 (And.intro @td_63 (And.intro @zv_63 (And.intro @tf_63 (And.intro @td_66 (And.intro @zv_66 (And.intro @tf_66 (And.intro @nk_68 (And.intro @td_68 (And.intro @zv_68 (And.intro @Try.underlying68 (And.intro @td_70 (And.intro @zv_70 @tf_70))))))))))))))))))))))))))))
def tfA3 := And.intro @td_72 (And.intro @zv_72 (And.intro @tf_72 (And.intro @nk_74 (And.intro @td_74 (And.intro @zv_74 (And.intro @Try.underlying74 (And.intro @td_76 (And.intro @zv_76 (And.intro @tf_76 (And.intro @td_79 (And.intro @zv_79 (And.intro @tf_79 (And.intro @fl_79 (And.intro @td_80 (And.intro @zv_80 (And.intro @tel_80 (And.intro @Try.underlying80 (And.intro @td_82 (And.intro @zv_82 (And.intro @tf_82 (And.intro @td_92 (And.intro @zv_92 (And.intro @tel_92 (And.intro @Try.underlying92 (And.intro @nk_95 (And.intro @td_103 (And.intro @zv_103 (And.intro @tf_103 @td_111))))))))))))))))))))))))))))
def tfA4 := And.intro @zv_111 (And.intro @tel_111 (And.intro @Try.underlying111 (And.intro @td_116 (And.intro @zv_116 (And.intro @tf_116 (And.intro @td_130 (And.intro @zv_130 (And.intro @tf_130 (And.intro @td_132 (And.intro @zv_132 (And.intro @tel_132 @Try.underlying132)))))))))))
def tfA := And.intro @tfA0 (And.intro @tfA1 (And.intro @tfA2 (And.intro @tfA3 @tfA4)))
end Go.Proofs.Ytamdnlnoioglnaa
