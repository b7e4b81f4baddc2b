/- The seat's types. -/
import Derived.Test.YtegfjolkcaoonaaV24
import Derived.Test.YtegfjolkcaoonaaProg
import Derived.RowKit2
namespace Go.Vai
open Go.RowKit
/-- The types that the evaluator knows. -/
def kinds : List (Nat × TK) := [(1, .func), (2, (.int .i64)), (3, (.int .i64)), (4, .bool), (5, (.int .u8)), (6, (.int .u8)), (12, (.int .u64)), (15, (.ptr 59)), (16, (.ptr 62)), (17, (.ptr 72)), (21, (.int .i32)), (22, (.slice 23)), (23, (.int .u64)), (24, (.struct [(0, 3), (1, 3), (2, 3), (3, 23), (4, 23), (5, 23), (6, 3)])), (25, (.struct [(0, 3), (1, 3), (2, 3), (3, 23), (4, 23), (5, 23), (6, 3)])), (26, .func), (28, .func), (29, .func), (30, .func), (31, .func), (32, .func), (33, .func), (34, .func), (35, .func), (36, .func), (37, .func), (38, (.slice 23)), (40, .func), (42, .func), (43, .func), (44, .func), (45, .func), (46, .func), (47, .func), (48, .func), (49, .func), (50, .func), (51, .func), (52, (.arr 5 28)), (53, .func), (54, .func), (55, .func), (56, .func), (57, .func), (63, .func), (64, (.int .u32)), (65, (.int .u8)), (66, (.int .u8)), (67, .func), (68, (.ptr 5)), (69, (.int .i32)), (70, (.int .i32))]
def T (P : Program) : TEnv := tenv P kinds
theorem T_ok : TOk Go.Proofs.Try.prog (T Go.Proofs.Try.prog) := tenv_ok (by kernel_rfl)
theorem T1 : T Go.Proofs.Try.prog 1 = ⟨.func, 1, 8, .nilFunc⟩ := by kernel_rfl
theorem T2 : T Go.Proofs.Try.prog 2 = ⟨(.int .i64), 1, 8, (.int .i64 0)⟩ := by kernel_rfl
theorem T3 : T Go.Proofs.Try.prog 3 = ⟨(.int .i64), 1, 8, (.int .i64 0)⟩ := by kernel_rfl
theorem T4 : T Go.Proofs.Try.prog 4 = ⟨.bool, 1, 1, (.bool false)⟩ := by kernel_rfl
theorem T5 : T Go.Proofs.Try.prog 5 = ⟨(.int .u8), 1, 1, (.int .u8 0)⟩ := by kernel_rfl
theorem T6 : T Go.Proofs.Try.prog 6 = ⟨(.int .u8), 1, 1, (.int .u8 0)⟩ := by kernel_rfl
theorem T12 : T Go.Proofs.Try.prog 12 = ⟨(.int .u64), 1, 8, (.int .u64 0)⟩ := by kernel_rfl
theorem T15 : T Go.Proofs.Try.prog 15 = ⟨(.ptr 59), 1, 8, (.pointer none)⟩ := by kernel_rfl
theorem T16 : T Go.Proofs.Try.prog 16 = ⟨(.ptr 62), 1, 8, (.pointer none)⟩ := by kernel_rfl
theorem T17 : T Go.Proofs.Try.prog 17 = ⟨(.ptr 72), 1, 8, (.pointer none)⟩ := by kernel_rfl
theorem T21 : T Go.Proofs.Try.prog 21 = ⟨(.int .i32), 1, 4, (.int .i32 0)⟩ := by kernel_rfl
theorem T22 : T Go.Proofs.Try.prog 22 = ⟨(.slice 23), 1, 24, (.slice none 0 0)⟩ := by kernel_rfl
theorem T23 : T Go.Proofs.Try.prog 23 = ⟨(.int .u64), 1, 8, (.int .u64 0)⟩ := by kernel_rfl
theorem T24 : T Go.Proofs.Try.prog 24 = ⟨(.struct [(0, 3), (1, 3), (2, 3), (3, 23), (4, 23), (5, 23), (6, 3)]), 7, 56, (.agg #[(.int .i64 0), (.int .i64 0), (.int .i64 0), (.int .u64 0), (.int .u64 0), (.int .u64 0), (.int .i64 0)])⟩ := by kernel_rfl
theorem T25 : T Go.Proofs.Try.prog 25 = ⟨(.struct [(0, 3), (1, 3), (2, 3), (3, 23), (4, 23), (5, 23), (6, 3)]), 7, 56, (.agg #[(.int .i64 0), (.int .i64 0), (.int .i64 0), (.int .u64 0), (.int .u64 0), (.int .u64 0), (.int .i64 0)])⟩ := by kernel_rfl
theorem T26 : T Go.Proofs.Try.prog 26 = ⟨.func, 1, 8, .nilFunc⟩ := by kernel_rfl
theorem T28 : T Go.Proofs.Try.prog 28 = ⟨.func, 1, 8, .nilFunc⟩ := by kernel_rfl
theorem T29 : T Go.Proofs.Try.prog 29 = ⟨.func, 1, 8, .nilFunc⟩ := by kernel_rfl
theorem T30 : T Go.Proofs.Try.prog 30 = ⟨.func, 1, 8, .nilFunc⟩ := by kernel_rfl
theorem T31 : T Go.Proofs.Try.prog 31 = ⟨.func, 1, 8, .nilFunc⟩ := by kernel_rfl
theorem T32 : T Go.Proofs.Try.prog 32 = ⟨.func, 1, 8, .nilFunc⟩ := by kernel_rfl
theorem T33 : T Go.Proofs.Try.prog 33 = ⟨.func, 1, 8, .nilFunc⟩ := by kernel_rfl
theorem T34 : T Go.Proofs.Try.prog 34 = ⟨.func, 1, 8, .nilFunc⟩ := by kernel_rfl
theorem T35 : T Go.Proofs.Try.prog 35 = ⟨.func, 1, 8, .nilFunc⟩ := by kernel_rfl
theorem T36 : T Go.Proofs.Try.prog 36 = ⟨.func, 1, 8, .nilFunc⟩ := by kernel_rfl
theorem T37 : T Go.Proofs.Try.prog 37 = ⟨.func, 1, 8, .nilFunc⟩ := by kernel_rfl
theorem T38 : T Go.Proofs.Try.prog 38 = ⟨(.slice 23), 1, 24, (.slice none 0 0)⟩ := by kernel_rfl
theorem T40 : T Go.Proofs.Try.prog 40 = ⟨.func, 1, 8, .nilFunc⟩ := by kernel_rfl
theorem T42 : T Go.Proofs.Try.prog 42 = ⟨.func, 1, 8, .nilFunc⟩ := by kernel_rfl
theorem T43 : T Go.Proofs.Try.prog 43 = ⟨.func, 1, 8, .nilFunc⟩ := by kernel_rfl
theorem T44 : T Go.Proofs.Try.prog 44 = ⟨.func, 1, 8, .nilFunc⟩ := by kernel_rfl
theorem T45 : T Go.Proofs.Try.prog 45 = ⟨.func, 1, 8, .nilFunc⟩ := by kernel_rfl
theorem T46 : T Go.Proofs.Try.prog 46 = ⟨.func, 1, 8, .nilFunc⟩ := by kernel_rfl
theorem T47 : T Go.Proofs.Try.prog 47 = ⟨.func, 1, 8, .nilFunc⟩ := by kernel_rfl
theorem T48 : T Go.Proofs.Try.prog 48 = ⟨.func, 1, 8, .nilFunc⟩ := by kernel_rfl
theorem T49 : T Go.Proofs.Try.prog 49 = ⟨.func, 1, 8, .nilFunc⟩ := by kernel_rfl
theorem T50 : T Go.Proofs.Try.prog 50 = ⟨.func, 1, 8, .nilFunc⟩ := by kernel_rfl
theorem T51 : T Go.Proofs.Try.prog 51 = ⟨.func, 1, 8, .nilFunc⟩ := by kernel_rfl
theorem T52 : T Go.Proofs.Try.prog 52 = ⟨(.arr 5 28), 5, 40, (.agg #[.nilFunc, .nilFunc, .nilFunc, .nilFunc, .nilFunc])⟩ := by kernel_rfl
theorem T53 : T Go.Proofs.Try.prog 53 = ⟨.func, 1, 8, .nilFunc⟩ := by kernel_rfl
theorem T54 : T Go.Proofs.Try.prog 54 = ⟨.func, 1, 8, .nilFunc⟩ := by kernel_rfl
theorem T55 : T Go.Proofs.Try.prog 55 = ⟨.func, 1, 8, .nilFunc⟩ := by kernel_rfl
theorem T56 : T Go.Proofs.Try.prog 56 = ⟨.func, 1, 8, .nilFunc⟩ := by kernel_rfl
theorem T57 : T Go.Proofs.Try.prog 57 = ⟨.func, 1, 8, .nilFunc⟩ := by kernel_rfl
theorem T63 : T Go.Proofs.Try.prog 63 = ⟨.func, 1, 8, .nilFunc⟩ := by kernel_rfl
theorem T64 : T Go.Proofs.Try.prog 64 = ⟨(.int .u32), 1, 4, (.int .u32 0)⟩ := by kernel_rfl
theorem T65 : T Go.Proofs.Try.prog 65 = ⟨(.int .u8), 1, 1, (.int .u8 0)⟩ := by kernel_rfl
theorem T66 : T Go.Proofs.Try.prog 66 = ⟨(.int .u8), 1, 1, (.int .u8 0)⟩ := by kernel_rfl
theorem T67 : T Go.Proofs.Try.prog 67 = ⟨.func, 1, 8, .nilFunc⟩ := by kernel_rfl
theorem T68 : T Go.Proofs.Try.prog 68 = ⟨(.ptr 5), 1, 8, (.pointer none)⟩ := by kernel_rfl
theorem T69 : T Go.Proofs.Try.prog 69 = ⟨(.int .i32), 1, 4, (.int .i32 0)⟩ := by kernel_rfl
theorem T70 : T Go.Proofs.Try.prog 70 = ⟨(.int .i32), 1, 4, (.int .i32 0)⟩ := by kernel_rfl
theorem draws_ok : (Go.Proofs.Try.prog.funcs.all fun fn => match fn.body with | some b => drawsOk b | none => true) = true := by kernel_rfl
end Go.Vai
