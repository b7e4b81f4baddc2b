/- What a call does at once. -/
import Derived.Test.YtinjbaccnclhdaaF1
namespace Go.Vai
open Go.RowKit Go.Proofs
set_option linter.unusedSimpArgs false
set_option linter.unusedVariables false
set_option maxHeartbeats 4000000
set_option maxRecDepth 100000

theorem hfree_fr (a b c d e g h : Int) : HFree (.agg [.v (.int .i64 a), .v (.int .i64 b), .v (.int .i64 c), .v (.int .u64 d), .v (.int .u64 e), .v (.int .u64 g), .v (.int .i64 h)]) = True := eq_true (hfree_fv ⟨a, b, c, d, e, g, h⟩)
/-- What it is by the numbers. -/
def fOnce (l : List Int) (room : Int) (f : Fr) : List Int × Fr :=
  if f.res ≠ 0 ∨ f.op < 0 ∨ 4 < f.op then (l, f)
  else if f.op = 0 ∨ f.op = 3 then (if room ≤ l.length then (l, fEnd f 2 f.val) else (l ++ [f.val], fEnd f 1 f.val))
  else if l = [] then (l, fEnd f 3 0)
  else if f.op = 1 then (l.take (l.length - 1), fEnd f 1 (l.getD (l.length - 1) 0))
  else (l.drop 1, fEnd f 1 (l.getD 0 0))

section
variable {l : List Int} {room : Int} {op pc who val x y res : Int}

end

def ov (x : List Int × Fr) : AV := .tup [ms x.1, fv x.2]

end Go.Vai
