/- The seat's types. -/
import Derived.Test.YtinjbaccnclhdaaV24
import Derived.Test.YtinjbaccnclhdaaProg
import Derived.RowKit2
namespace Go.Vai
open Go.RowKit
/-- The types that the evaluator knows. -/
def kinds : List (Nat × TK) := [(1, .func), (2, (.int .i64)), (3, (.int .i64)), (4, .bool), (5, (.int .u8)), (6, (.int .u8)), (12, (.int .u64)), (15, (.ptr 72)), (16, (.ptr 75)), (17, (.ptr 84)), (21, (.int .i32)), (22, (.struct [(0, 3), (1, 3), (2, 3), (3, 3)])), (23, (.struct [(0, 3), (1, 3), (2, 3), (3, 3)])), (24, (.slice 26)), (25, (.slice 26)), (26, (.int .u64)), (27, (.struct [(0, 3), (1, 3), (2, 3), (3, 26), (4, 26), (5, 26), (6, 3)])), (28, (.struct [(0, 3), (1, 3), (2, 3), (3, 26), (4, 26), (5, 26), (6, 3)])), (29, .func), (31, .func), (32, .func), (33, .func), (34, .func), (35, .func), (36, .func), (37, .func), (38, .func), (39, .func), (40, .func), (41, .func), (42, .func), (43, .func), (44, .func), (46, .func), (47, .func), (48, .func), (49, (.ptr 52)), (50, .func), (51, (.struct [(0, 28), (7, 23), (11, 25)])), (52, (.struct [(0, 28), (7, 23), (11, 25)])), (53, .func), (54, (.slice 53)), (55, .func), (56, .func), (58, .func), (59, .func), (60, .func), (61, .func), (62, .func), (63, .func), (65, .func), (66, .func), (67, .func), (68, .func), (69, .func), (70, .func), (76, (.int .u32)), (77, (.int .u8)), (78, (.int .u8)), (79, .func), (80, (.ptr 5)), (81, (.int .i32)), (82, (.int .i32))]
def T (P : Program) : TEnv := tenv P kinds
theorem T_ok : TOk Go.Proofs.Try.prog (T Go.Proofs.Try.prog) := tenv_ok (by kernel_rfl)
theorem T1 : T Go.Proofs.Try.prog 1 = ⟨.func, 1, 8, .nilFunc⟩ := by kernel_rfl
theorem T2 : T Go.Proofs.Try.prog 2 = ⟨(.int .i64), 1, 8, (.int .i64 0)⟩ := by kernel_rfl
theorem T3 : T Go.Proofs.Try.prog 3 = ⟨(.int .i64), 1, 8, (.int .i64 0)⟩ := by kernel_rfl
theorem T4 : T Go.Proofs.Try.prog 4 = ⟨.bool, 1, 1, (.bool false)⟩ := by kernel_rfl
theorem T5 : T Go.Proofs.Try.prog 5 = ⟨(.int .u8), 1, 1, (.int .u8 0)⟩ := by kernel_rfl
theorem T6 : T Go.Proofs.Try.prog 6 = ⟨(.int .u8), 1, 1, (.int .u8 0)⟩ := by kernel_rfl
theorem T12 : T Go.Proofs.Try.prog 12 = ⟨(.int .u64), 1, 8, (.int .u64 0)⟩ := by kernel_rfl
theorem T15 : T Go.Proofs.Try.prog 15 = ⟨(.ptr 72), 1, 8, (.pointer none)⟩ := by kernel_rfl
theorem T16 : T Go.Proofs.Try.prog 16 = ⟨(.ptr 75), 1, 8, (.pointer none)⟩ := by kernel_rfl
theorem T17 : T Go.Proofs.Try.prog 17 = ⟨(.ptr 84), 1, 8, (.pointer none)⟩ := by kernel_rfl
theorem T21 : T Go.Proofs.Try.prog 21 = ⟨(.int .i32), 1, 4, (.int .i32 0)⟩ := by kernel_rfl
theorem T22 : T Go.Proofs.Try.prog 22 = ⟨(.struct [(0, 3), (1, 3), (2, 3), (3, 3)]), 4, 32, (.agg #[(.int .i64 0), (.int .i64 0), (.int .i64 0), (.int .i64 0)])⟩ := by kernel_rfl
theorem T23 : T Go.Proofs.Try.prog 23 = ⟨(.struct [(0, 3), (1, 3), (2, 3), (3, 3)]), 4, 32, (.agg #[(.int .i64 0), (.int .i64 0), (.int .i64 0), (.int .i64 0)])⟩ := by kernel_rfl
theorem T24 : T Go.Proofs.Try.prog 24 = ⟨(.slice 26), 1, 24, (.slice none 0 0)⟩ := by kernel_rfl
theorem T25 : T Go.Proofs.Try.prog 25 = ⟨(.slice 26), 1, 24, (.slice none 0 0)⟩ := by kernel_rfl
theorem T26 : T Go.Proofs.Try.prog 26 = ⟨(.int .u64), 1, 8, (.int .u64 0)⟩ := by kernel_rfl
theorem T27 : T Go.Proofs.Try.prog 27 = ⟨(.struct [(0, 3), (1, 3), (2, 3), (3, 26), (4, 26), (5, 26), (6, 3)]), 7, 56, (.agg #[(.int .i64 0), (.int .i64 0), (.int .i64 0), (.int .u64 0), (.int .u64 0), (.int .u64 0), (.int .i64 0)])⟩ := by kernel_rfl
theorem T28 : T Go.Proofs.Try.prog 28 = ⟨(.struct [(0, 3), (1, 3), (2, 3), (3, 26), (4, 26), (5, 26), (6, 3)]), 7, 56, (.agg #[(.int .i64 0), (.int .i64 0), (.int .i64 0), (.int .u64 0), (.int .u64 0), (.int .u64 0), (.int .i64 0)])⟩ := by kernel_rfl
theorem T29 : T Go.Proofs.Try.prog 29 = ⟨.func, 1, 8, .nilFunc⟩ := by kernel_rfl
theorem T31 : T Go.Proofs.Try.prog 31 = ⟨.func, 1, 8, .nilFunc⟩ := by kernel_rfl
theorem T32 : T Go.Proofs.Try.prog 32 = ⟨.func, 1, 8, .nilFunc⟩ := by kernel_rfl
theorem T33 : T Go.Proofs.Try.prog 33 = ⟨.func, 1, 8, .nilFunc⟩ := by kernel_rfl
theorem T34 : T Go.Proofs.Try.prog 34 = ⟨.func, 1, 8, .nilFunc⟩ := by kernel_rfl
theorem T35 : T Go.Proofs.Try.prog 35 = ⟨.func, 1, 8, .nilFunc⟩ := by kernel_rfl
theorem T36 : T Go.Proofs.Try.prog 36 = ⟨.func, 1, 8, .nilFunc⟩ := by kernel_rfl
theorem T37 : T Go.Proofs.Try.prog 37 = ⟨.func, 1, 8, .nilFunc⟩ := by kernel_rfl
theorem T38 : T Go.Proofs.Try.prog 38 = ⟨.func, 1, 8, .nilFunc⟩ := by kernel_rfl
theorem T39 : T Go.Proofs.Try.prog 39 = ⟨.func, 1, 8, .nilFunc⟩ := by kernel_rfl
theorem T40 : T Go.Proofs.Try.prog 40 = ⟨.func, 1, 8, .nilFunc⟩ := by kernel_rfl
theorem T41 : T Go.Proofs.Try.prog 41 = ⟨.func, 1, 8, .nilFunc⟩ := by kernel_rfl
theorem T42 : T Go.Proofs.Try.prog 42 = ⟨.func, 1, 8, .nilFunc⟩ := by kernel_rfl
theorem T43 : T Go.Proofs.Try.prog 43 = ⟨.func, 1, 8, .nilFunc⟩ := by kernel_rfl
theorem T44 : T Go.Proofs.Try.prog 44 = ⟨.func, 1, 8, .nilFunc⟩ := by kernel_rfl
theorem T46 : T Go.Proofs.Try.prog 46 = ⟨.func, 1, 8, .nilFunc⟩ := by kernel_rfl
theorem T47 : T Go.Proofs.Try.prog 47 = ⟨.func, 1, 8, .nilFunc⟩ := by kernel_rfl
theorem T48 : T Go.Proofs.Try.prog 48 = ⟨.func, 1, 8, .nilFunc⟩ := by kernel_rfl
theorem T49 : T Go.Proofs.Try.prog 49 = ⟨(.ptr 52), 1, 8, (.pointer none)⟩ := by kernel_rfl
theorem T50 : T Go.Proofs.Try.prog 50 = ⟨.func, 1, 8, .nilFunc⟩ := by kernel_rfl
theorem T51 : T Go.Proofs.Try.prog 51 = ⟨(.struct [(0, 28), (7, 23), (11, 25)]), 12, 112, (.agg #[(.int .i64 0), (.int .i64 0), (.int .i64 0), (.int .u64 0), (.int .u64 0), (.int .u64 0), (.int .i64 0), (.int .i64 0), (.int .i64 0), (.int .i64 0), (.int .i64 0), (.slice none 0 0)])⟩ := by kernel_rfl
theorem T52 : T Go.Proofs.Try.prog 52 = ⟨(.struct [(0, 28), (7, 23), (11, 25)]), 12, 112, (.agg #[(.int .i64 0), (.int .i64 0), (.int .i64 0), (.int .u64 0), (.int .u64 0), (.int .u64 0), (.int .i64 0), (.int .i64 0), (.int .i64 0), (.int .i64 0), (.int .i64 0), (.slice none 0 0)])⟩ := by kernel_rfl
theorem T53 : T Go.Proofs.Try.prog 53 = ⟨.func, 1, 8, .nilFunc⟩ := by kernel_rfl
theorem T54 : T Go.Proofs.Try.prog 54 = ⟨(.slice 53), 1, 24, (.slice none 0 0)⟩ := by kernel_rfl
theorem T55 : T Go.Proofs.Try.prog 55 = ⟨.func, 1, 8, .nilFunc⟩ := by kernel_rfl
theorem T56 : T Go.Proofs.Try.prog 56 = ⟨.func, 1, 8, .nilFunc⟩ := by kernel_rfl
theorem T58 : T Go.Proofs.Try.prog 58 = ⟨.func, 1, 8, .nilFunc⟩ := by kernel_rfl
theorem T59 : T Go.Proofs.Try.prog 59 = ⟨.func, 1, 8, .nilFunc⟩ := by kernel_rfl
theorem T60 : T Go.Proofs.Try.prog 60 = ⟨.func, 1, 8, .nilFunc⟩ := by kernel_rfl
theorem T61 : T Go.Proofs.Try.prog 61 = ⟨.func, 1, 8, .nilFunc⟩ := by kernel_rfl
theorem T62 : T Go.Proofs.Try.prog 62 = ⟨.func, 1, 8, .nilFunc⟩ := by kernel_rfl
theorem T63 : T Go.Proofs.Try.prog 63 = ⟨.func, 1, 8, .nilFunc⟩ := by kernel_rfl
theorem T65 : T Go.Proofs.Try.prog 65 = ⟨.func, 1, 8, .nilFunc⟩ := by kernel_rfl
theorem T66 : T Go.Proofs.Try.prog 66 = ⟨.func, 1, 8, .nilFunc⟩ := by kernel_rfl
theorem T67 : T Go.Proofs.Try.prog 67 = ⟨.func, 1, 8, .nilFunc⟩ := by kernel_rfl
theorem T68 : T Go.Proofs.Try.prog 68 = ⟨.func, 1, 8, .nilFunc⟩ := by kernel_rfl
theorem T69 : T Go.Proofs.Try.prog 69 = ⟨.func, 1, 8, .nilFunc⟩ := by kernel_rfl
theorem T70 : T Go.Proofs.Try.prog 70 = ⟨.func, 1, 8, .nilFunc⟩ := by kernel_rfl
theorem T76 : T Go.Proofs.Try.prog 76 = ⟨(.int .u32), 1, 4, (.int .u32 0)⟩ := by kernel_rfl
theorem T77 : T Go.Proofs.Try.prog 77 = ⟨(.int .u8), 1, 1, (.int .u8 0)⟩ := by kernel_rfl
theorem T78 : T Go.Proofs.Try.prog 78 = ⟨(.int .u8), 1, 1, (.int .u8 0)⟩ := by kernel_rfl
theorem T79 : T Go.Proofs.Try.prog 79 = ⟨.func, 1, 8, .nilFunc⟩ := by kernel_rfl
theorem T80 : T Go.Proofs.Try.prog 80 = ⟨(.ptr 5), 1, 8, (.pointer none)⟩ := by kernel_rfl
theorem T81 : T Go.Proofs.Try.prog 81 = ⟨(.int .i32), 1, 4, (.int .i32 0)⟩ := by kernel_rfl
theorem T82 : T Go.Proofs.Try.prog 82 = ⟨(.int .i32), 1, 4, (.int .i32 0)⟩ := by kernel_rfl
theorem draws_ok : (Go.Proofs.Try.prog.funcs.all fun fn => match fn.body with | some b => drawsOk b | none => true) = true := by kernel_rfl
end Go.Vai
