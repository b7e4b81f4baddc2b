/-
  No cell of these rows narrows 'for every input' (looked for: loops, veiled, ifaces, maps, wideKeys, modest, calm, conditions, laid).
  DERIVED. THE GIVEN ROWS OF THIS SEAT. 18 by the template 'for every input the law returns true; each argument reads behind the call as it read before'; 0 by the template 'total and deterministic' (their statements: YtnpclhomipomlaaTotals.lean).
  GIVEN WITH THE SEED: the statements are not yours to turn. If you find one false, say at which input.
  Laid BY PROGRAM, IN A SANDBOX (cutbox-rows.mjs): the forced cells as the released guide's own fill.sh prints them over the translation 76cd3d15d893c893… (all of the seat's roots in one cut). By AI agents, Wed Nov 11 2026. No macro, syntax, notation, axiom, sorry.
-/
import Derived.Test.YtnpclhomipomlaaChecked
import GoSem.Claim
import GoSem.ClaimJoined
import GoSem.ClaimMapViews
import Derived.JoinedTies
import Derived.KernelRfl
namespace Go.Proofs.Ytnpclhomipomlaa
/- THE CELL 'sum', in the pinned program and in every row, IS THE sha256 OF THE DUMP (.gsa) THAT YtnpclhomipomlaaProg.lean LOADS. Nothing in Lean hashes anything: it is a label: what it is worth is what the hold of that sum in a sandbox is worth. -/
noncomputable def Try.pinned : Pinned := { name := "ytnpclhomipomlaa", sum := "76cd3d15d893c89362c275a0d2c37dfc2a1b67fb613c7c66b61e0c826473f27b", checked := Try.checked }
namespace Rows
def none {H : Type} : Left H := { results := [], args := [] }

/-- 'poacherlaw07.PushTells': WHATEVER THE INPUT: true; the input reads as it did. -/
def pushTellsSpec : ChangeSpec := { name := "pushTells", fn := fun _ => fun
  | [d1, d2, d3, d4, d5] => { results := [.lit (.bool true)], args := [d1, d2, d3, d4, d5] }
  | _ => none }
def pushTellsRow : OpenClaim := { program := "ytnpclhomipomlaa", sum := "76cd3d15d893c89362c275a0d2c37dfc2a1b67fb613c7c66b61e0c826473f27b", func := "poacher/poacherlaw07.PushTells", spec := "pushTells", unfollowed := true, recurses := true, apart := false }
def PushTellsSaid : Prop := pushTellsRow.holds Try.pinned (OpenSpec.ofChange pushTellsSpec)

/-- ITS FALSE NEIGHBOUR: 'it returns false'. Refute it at one input. -/
def pushTellsWrong : ChangeSpec := { name := "pushTells", fn := fun _ => fun
  | [d1, d2, d3, d4, d5] => { results := [.lit (.bool false)], args := [d1, d2, d3, d4, d5] }
  | _ => none }
def PushTellsWrongFalsely : Prop := pushTellsRow.holds Try.pinned (OpenSpec.ofChange pushTellsWrong)

/-- 'poacherlaw07.PushCells': WHATEVER THE INPUT: true; the input reads as it did. -/
def pushCellsSpec : ChangeSpec := { name := "pushCells", fn := fun _ => fun
  | [d1, d2, d3] => { results := [.lit (.bool true)], args := [d1, d2, d3] }
  | _ => none }
def pushCellsRow : OpenClaim := { program := "ytnpclhomipomlaa", sum := "76cd3d15d893c89362c275a0d2c37dfc2a1b67fb613c7c66b61e0c826473f27b", func := "poacher/poacherlaw07.PushCells", spec := "pushCells", unfollowed := true, recurses := true, apart := false }
def PushCellsSaid : Prop := pushCellsRow.holds Try.pinned (OpenSpec.ofChange pushCellsSpec)

/-- ITS FALSE NEIGHBOUR: 'it returns false'. Refute it at one input. -/
def pushCellsWrong : ChangeSpec := { name := "pushCells", fn := fun _ => fun
  | [d1, d2, d3] => { results := [.lit (.bool false)], args := [d1, d2, d3] }
  | _ => none }
def PushCellsWrongFalsely : Prop := pushCellsRow.holds Try.pinned (OpenSpec.ofChange pushCellsWrong)

/-- 'poacherlaw07.PushOther': WHATEVER THE INPUT: true; the input reads as it did. -/
def pushOtherSpec : ChangeSpec := { name := "pushOther", fn := fun _ => fun
  | [d1, d2, d3, d4, d5] => { results := [.lit (.bool true)], args := [d1, d2, d3, d4, d5] }
  | _ => none }
def pushOtherRow : OpenClaim := { program := "ytnpclhomipomlaa", sum := "76cd3d15d893c89362c275a0d2c37dfc2a1b67fb613c7c66b61e0c826473f27b", func := "poacher/poacherlaw07.PushOther", spec := "pushOther", unfollowed := true, recurses := true, apart := false }
def PushOtherSaid : Prop := pushOtherRow.holds Try.pinned (OpenSpec.ofChange pushOtherSpec)

/-- ITS FALSE NEIGHBOUR: 'it returns false'. Refute it at one input. -/
def pushOtherWrong : ChangeSpec := { name := "pushOther", fn := fun _ => fun
  | [d1, d2, d3, d4, d5] => { results := [.lit (.bool false)], args := [d1, d2, d3, d4, d5] }
  | _ => none }
def PushOtherWrongFalsely : Prop := pushOtherRow.holds Try.pinned (OpenSpec.ofChange pushOtherWrong)

/-- 'poacherlaw07.PushSeen': WHATEVER THE INPUT: true; the input reads as it did. -/
def pushSeenSpec : ChangeSpec := { name := "pushSeen", fn := fun _ => fun
  | [d1, d2, d3, d4] => { results := [.lit (.bool true)], args := [d1, d2, d3, d4] }
  | _ => none }
def pushSeenRow : OpenClaim := { program := "ytnpclhomipomlaa", sum := "76cd3d15d893c89362c275a0d2c37dfc2a1b67fb613c7c66b61e0c826473f27b", func := "poacher/poacherlaw07.PushSeen", spec := "pushSeen", unfollowed := true, recurses := true, apart := false }
def PushSeenSaid : Prop := pushSeenRow.holds Try.pinned (OpenSpec.ofChange pushSeenSpec)

/-- ITS FALSE NEIGHBOUR: 'it returns false'. Refute it at one input. -/
def pushSeenWrong : ChangeSpec := { name := "pushSeen", fn := fun _ => fun
  | [d1, d2, d3, d4] => { results := [.lit (.bool false)], args := [d1, d2, d3, d4] }
  | _ => none }
def PushSeenWrongFalsely : Prop := pushSeenRow.holds Try.pinned (OpenSpec.ofChange pushSeenWrong)

/-- 'poacherlaw07.PushGoes': WHATEVER THE INPUT: true; the input reads as it did. -/
def pushGoesSpec : ChangeSpec := { name := "pushGoes", fn := fun _ => fun
  | [d1, d2, d3, d4] => { results := [.lit (.bool true)], args := [d1, d2, d3, d4] }
  | _ => none }
def pushGoesRow : OpenClaim := { program := "ytnpclhomipomlaa", sum := "76cd3d15d893c89362c275a0d2c37dfc2a1b67fb613c7c66b61e0c826473f27b", func := "poacher/poacherlaw07.PushGoes", spec := "pushGoes", unfollowed := true, recurses := true, apart := false }
def PushGoesSaid : Prop := pushGoesRow.holds Try.pinned (OpenSpec.ofChange pushGoesSpec)

/-- ITS FALSE NEIGHBOUR: 'it returns false'. Refute it at one input. -/
def pushGoesWrong : ChangeSpec := { name := "pushGoes", fn := fun _ => fun
  | [d1, d2, d3, d4] => { results := [.lit (.bool false)], args := [d1, d2, d3, d4] }
  | _ => none }
def PushGoesWrongFalsely : Prop := pushGoesRow.holds Try.pinned (OpenSpec.ofChange pushGoesWrong)

/-- 'poacherlaw09.StealTells': WHATEVER THE INPUT: true; the input reads as it did. -/
def stealTellsSpec : ChangeSpec := { name := "stealTells", fn := fun _ => fun
  | [d1, d2, d3] => { results := [.lit (.bool true)], args := [d1, d2, d3] }
  | _ => none }
def stealTellsRow : OpenClaim := { program := "ytnpclhomipomlaa", sum := "76cd3d15d893c89362c275a0d2c37dfc2a1b67fb613c7c66b61e0c826473f27b", func := "poacher/poacherlaw09.StealTells", spec := "stealTells", unfollowed := true, recurses := true, apart := false }
def StealTellsSaid : Prop := stealTellsRow.holds Try.pinned (OpenSpec.ofChange stealTellsSpec)

/-- ITS FALSE NEIGHBOUR: 'it returns false'. Refute it at one input. -/
def stealTellsWrong : ChangeSpec := { name := "stealTells", fn := fun _ => fun
  | [d1, d2, d3] => { results := [.lit (.bool false)], args := [d1, d2, d3] }
  | _ => none }
def StealTellsWrongFalsely : Prop := stealTellsRow.holds Try.pinned (OpenSpec.ofChange stealTellsWrong)

/-- 'poacherlaw09.StealAbort': WHATEVER THE INPUT: true; the input reads as it did. -/
def stealAbortSpec : ChangeSpec := { name := "stealAbort", fn := fun _ => fun
  | [d1, d2, d3] => { results := [.lit (.bool true)], args := [d1, d2, d3] }
  | _ => none }
def stealAbortRow : OpenClaim := { program := "ytnpclhomipomlaa", sum := "76cd3d15d893c89362c275a0d2c37dfc2a1b67fb613c7c66b61e0c826473f27b", func := "poacher/poacherlaw09.StealAbort", spec := "stealAbort", unfollowed := true, recurses := true, apart := false }
def StealAbortSaid : Prop := stealAbortRow.holds Try.pinned (OpenSpec.ofChange stealAbortSpec)

/-- ITS FALSE NEIGHBOUR: 'it returns false'. Refute it at one input. -/
def stealAbortWrong : ChangeSpec := { name := "stealAbort", fn := fun _ => fun
  | [d1, d2, d3] => { results := [.lit (.bool false)], args := [d1, d2, d3] }
  | _ => none }
def StealAbortWrongFalsely : Prop := stealAbortRow.holds Try.pinned (OpenSpec.ofChange stealAbortWrong)

/-- 'poacherlaw09.StealCells': WHATEVER THE INPUT: true; the input reads as it did. -/
def stealCellsSpec : ChangeSpec := { name := "stealCells", fn := fun _ => fun
  | [d1, d2, d3] => { results := [.lit (.bool true)], args := [d1, d2, d3] }
  | _ => none }
def stealCellsRow : OpenClaim := { program := "ytnpclhomipomlaa", sum := "76cd3d15d893c89362c275a0d2c37dfc2a1b67fb613c7c66b61e0c826473f27b", func := "poacher/poacherlaw09.StealCells", spec := "stealCells", unfollowed := true, recurses := true, apart := false }
def StealCellsSaid : Prop := stealCellsRow.holds Try.pinned (OpenSpec.ofChange stealCellsSpec)

/-- ITS FALSE NEIGHBOUR: 'it returns false'. Refute it at one input. -/
def stealCellsWrong : ChangeSpec := { name := "stealCells", fn := fun _ => fun
  | [d1, d2, d3] => { results := [.lit (.bool false)], args := [d1, d2, d3] }
  | _ => none }
def StealCellsWrongFalsely : Prop := stealCellsRow.holds Try.pinned (OpenSpec.ofChange stealCellsWrong)

/-- 'poacherlaw07.PushAlone': WHATEVER THE INPUT: true; the input reads as it did. -/
def pushAloneSpec : ChangeSpec := { name := "pushAlone", fn := fun _ => fun
  | [d1, d2, d3, d4] => { results := [.lit (.bool true)], args := [d1, d2, d3, d4] }
  | _ => none }
def pushAloneRow : OpenClaim := { program := "ytnpclhomipomlaa", sum := "76cd3d15d893c89362c275a0d2c37dfc2a1b67fb613c7c66b61e0c826473f27b", func := "poacher/poacherlaw07.PushAlone", spec := "pushAlone", unfollowed := true, recurses := true, apart := false }
def PushAloneSaid : Prop := pushAloneRow.holds Try.pinned (OpenSpec.ofChange pushAloneSpec)

/-- ITS FALSE NEIGHBOUR: 'it returns false'. Refute it at one input. -/
def pushAloneWrong : ChangeSpec := { name := "pushAlone", fn := fun _ => fun
  | [d1, d2, d3, d4] => { results := [.lit (.bool false)], args := [d1, d2, d3, d4] }
  | _ => none }
def PushAloneWrongFalsely : Prop := pushAloneRow.holds Try.pinned (OpenSpec.ofChange pushAloneWrong)

/-- 'poacherlaw08.PopTells': WHATEVER THE INPUT: true; the input reads as it did. -/
def popTellsSpec : ChangeSpec := { name := "popTells", fn := fun _ => fun
  | [d1, d2, d3] => { results := [.lit (.bool true)], args := [d1, d2, d3] }
  | _ => none }
def popTellsRow : OpenClaim := { program := "ytnpclhomipomlaa", sum := "76cd3d15d893c89362c275a0d2c37dfc2a1b67fb613c7c66b61e0c826473f27b", func := "poacher/poacherlaw08.PopTells", spec := "popTells", unfollowed := true, recurses := true, apart := false }
def PopTellsSaid : Prop := popTellsRow.holds Try.pinned (OpenSpec.ofChange popTellsSpec)

/-- ITS FALSE NEIGHBOUR: 'it returns false'. Refute it at one input. -/
def popTellsWrong : ChangeSpec := { name := "popTells", fn := fun _ => fun
  | [d1, d2, d3] => { results := [.lit (.bool false)], args := [d1, d2, d3] }
  | _ => none }
def PopTellsWrongFalsely : Prop := popTellsRow.holds Try.pinned (OpenSpec.ofChange popTellsWrong)

/-- 'poacherlaw08.PopCells': WHATEVER THE INPUT: true; the input reads as it did. -/
def popCellsSpec : ChangeSpec := { name := "popCells", fn := fun _ => fun
  | [d1, d2, d3] => { results := [.lit (.bool true)], args := [d1, d2, d3] }
  | _ => none }
def popCellsRow : OpenClaim := { program := "ytnpclhomipomlaa", sum := "76cd3d15d893c89362c275a0d2c37dfc2a1b67fb613c7c66b61e0c826473f27b", func := "poacher/poacherlaw08.PopCells", spec := "popCells", unfollowed := true, recurses := true, apart := false }
def PopCellsSaid : Prop := popCellsRow.holds Try.pinned (OpenSpec.ofChange popCellsSpec)

/-- ITS FALSE NEIGHBOUR: 'it returns false'. Refute it at one input. -/
def popCellsWrong : ChangeSpec := { name := "popCells", fn := fun _ => fun
  | [d1, d2, d3] => { results := [.lit (.bool false)], args := [d1, d2, d3] }
  | _ => none }
def PopCellsWrongFalsely : Prop := popCellsRow.holds Try.pinned (OpenSpec.ofChange popCellsWrong)

/-- 'poacherlaw08.PopOver': WHATEVER THE INPUT: true; the input reads as it did. -/
def popOverSpec : ChangeSpec := { name := "popOver", fn := fun _ => fun
  | [d1, d2, d3] => { results := [.lit (.bool true)], args := [d1, d2, d3] }
  | _ => none }
def popOverRow : OpenClaim := { program := "ytnpclhomipomlaa", sum := "76cd3d15d893c89362c275a0d2c37dfc2a1b67fb613c7c66b61e0c826473f27b", func := "poacher/poacherlaw08.PopOver", spec := "popOver", unfollowed := true, recurses := true, apart := false }
def PopOverSaid : Prop := popOverRow.holds Try.pinned (OpenSpec.ofChange popOverSpec)

/-- ITS FALSE NEIGHBOUR: 'it returns false'. Refute it at one input. -/
def popOverWrong : ChangeSpec := { name := "popOver", fn := fun _ => fun
  | [d1, d2, d3] => { results := [.lit (.bool false)], args := [d1, d2, d3] }
  | _ => none }
def PopOverWrongFalsely : Prop := popOverRow.holds Try.pinned (OpenSpec.ofChange popOverWrong)

/-- 'poacherlaw08.PopAll': WHATEVER THE INPUT: true; the input reads as it did. -/
def popAllSpec : ChangeSpec := { name := "popAll", fn := fun _ => fun
  | [d1, d2, d3] => { results := [.lit (.bool true)], args := [d1, d2, d3] }
  | _ => none }
def popAllRow : OpenClaim := { program := "ytnpclhomipomlaa", sum := "76cd3d15d893c89362c275a0d2c37dfc2a1b67fb613c7c66b61e0c826473f27b", func := "poacher/poacherlaw08.PopAll", spec := "popAll", unfollowed := true, recurses := true, apart := false }
def PopAllSaid : Prop := popAllRow.holds Try.pinned (OpenSpec.ofChange popAllSpec)

/-- ITS FALSE NEIGHBOUR: 'it returns false'. Refute it at one input. -/
def popAllWrong : ChangeSpec := { name := "popAll", fn := fun _ => fun
  | [d1, d2, d3] => { results := [.lit (.bool false)], args := [d1, d2, d3] }
  | _ => none }
def PopAllWrongFalsely : Prop := popAllRow.holds Try.pinned (OpenSpec.ofChange popAllWrong)

/-- 'poacherlaw09.StealLate': WHATEVER THE INPUT: true; the input reads as it did. -/
def stealLateSpec : ChangeSpec := { name := "stealLate", fn := fun _ => fun
  | [d1, d2, d3, d4] => { results := [.lit (.bool true)], args := [d1, d2, d3, d4] }
  | _ => none }
def stealLateRow : OpenClaim := { program := "ytnpclhomipomlaa", sum := "76cd3d15d893c89362c275a0d2c37dfc2a1b67fb613c7c66b61e0c826473f27b", func := "poacher/poacherlaw09.StealLate", spec := "stealLate", unfollowed := true, recurses := true, apart := false }
def StealLateSaid : Prop := stealLateRow.holds Try.pinned (OpenSpec.ofChange stealLateSpec)

/-- ITS FALSE NEIGHBOUR: 'it returns false'. Refute it at one input. -/
def stealLateWrong : ChangeSpec := { name := "stealLate", fn := fun _ => fun
  | [d1, d2, d3, d4] => { results := [.lit (.bool false)], args := [d1, d2, d3, d4] }
  | _ => none }
def StealLateWrongFalsely : Prop := stealLateRow.holds Try.pinned (OpenSpec.ofChange stealLateWrong)

/-- 'poacherlaw09.StealPush': WHATEVER THE INPUT: true; the input reads as it did. -/
def stealPushSpec : ChangeSpec := { name := "stealPush", fn := fun _ => fun
  | [d1, d2, d3, d4] => { results := [.lit (.bool true)], args := [d1, d2, d3, d4] }
  | _ => none }
def stealPushRow : OpenClaim := { program := "ytnpclhomipomlaa", sum := "76cd3d15d893c89362c275a0d2c37dfc2a1b67fb613c7c66b61e0c826473f27b", func := "poacher/poacherlaw09.StealPush", spec := "stealPush", unfollowed := true, recurses := true, apart := false }
def StealPushSaid : Prop := stealPushRow.holds Try.pinned (OpenSpec.ofChange stealPushSpec)

/-- ITS FALSE NEIGHBOUR: 'it returns false'. Refute it at one input. -/
def stealPushWrong : ChangeSpec := { name := "stealPush", fn := fun _ => fun
  | [d1, d2, d3, d4] => { results := [.lit (.bool false)], args := [d1, d2, d3, d4] }
  | _ => none }
def StealPushWrongFalsely : Prop := stealPushRow.holds Try.pinned (OpenSpec.ofChange stealPushWrong)

/-- 'poacherlaw09.StealAlone': WHATEVER THE INPUT: true; the input reads as it did. -/
def stealAloneSpec : ChangeSpec := { name := "stealAlone", fn := fun _ => fun
  | [d1, d2, d3] => { results := [.lit (.bool true)], args := [d1, d2, d3] }
  | _ => none }
def stealAloneRow : OpenClaim := { program := "ytnpclhomipomlaa", sum := "76cd3d15d893c89362c275a0d2c37dfc2a1b67fb613c7c66b61e0c826473f27b", func := "poacher/poacherlaw09.StealAlone", spec := "stealAlone", unfollowed := true, recurses := true, apart := false }
def StealAloneSaid : Prop := stealAloneRow.holds Try.pinned (OpenSpec.ofChange stealAloneSpec)

/-- ITS FALSE NEIGHBOUR: 'it returns false'. Refute it at one input. -/
def stealAloneWrong : ChangeSpec := { name := "stealAlone", fn := fun _ => fun
  | [d1, d2, d3] => { results := [.lit (.bool false)], args := [d1, d2, d3] }
  | _ => none }
def StealAloneWrongFalsely : Prop := stealAloneRow.holds Try.pinned (OpenSpec.ofChange stealAloneWrong)

/-- 'poacherlaw08.PopBack': WHATEVER THE INPUT: true; the input reads as it did. -/
def popBackSpec : ChangeSpec := { name := "popBack", fn := fun _ => fun
  | [d1, d2, d3, d4] => { results := [.lit (.bool true)], args := [d1, d2, d3, d4] }
  | _ => none }
def popBackRow : OpenClaim := { program := "ytnpclhomipomlaa", sum := "76cd3d15d893c89362c275a0d2c37dfc2a1b67fb613c7c66b61e0c826473f27b", func := "poacher/poacherlaw08.PopBack", spec := "popBack", unfollowed := true, recurses := true, apart := false }
def PopBackSaid : Prop := popBackRow.holds Try.pinned (OpenSpec.ofChange popBackSpec)

/-- ITS FALSE NEIGHBOUR: 'it returns false'. Refute it at one input. -/
def popBackWrong : ChangeSpec := { name := "popBack", fn := fun _ => fun
  | [d1, d2, d3, d4] => { results := [.lit (.bool false)], args := [d1, d2, d3, d4] }
  | _ => none }
def PopBackWrongFalsely : Prop := popBackRow.holds Try.pinned (OpenSpec.ofChange popBackWrong)

/-- 'poacherlaw08.PopAlone': WHATEVER THE INPUT: true; the input reads as it did. -/
def popAloneSpec : ChangeSpec := { name := "popAlone", fn := fun _ => fun
  | [d1, d2, d3] => { results := [.lit (.bool true)], args := [d1, d2, d3] }
  | _ => none }
def popAloneRow : OpenClaim := { program := "ytnpclhomipomlaa", sum := "76cd3d15d893c89362c275a0d2c37dfc2a1b67fb613c7c66b61e0c826473f27b", func := "poacher/poacherlaw08.PopAlone", spec := "popAlone", unfollowed := true, recurses := true, apart := false }
def PopAloneSaid : Prop := popAloneRow.holds Try.pinned (OpenSpec.ofChange popAloneSpec)

/-- ITS FALSE NEIGHBOUR: 'it returns false'. Refute it at one input. -/
def popAloneWrong : ChangeSpec := { name := "popAlone", fn := fun _ => fun
  | [d1, d2, d3] => { results := [.lit (.bool false)], args := [d1, d2, d3] }
  | _ => none }
def PopAloneWrongFalsely : Prop := popAloneRow.holds Try.pinned (OpenSpec.ofChange popAloneWrong)

/- THE SECOND FORM. 'bulk': how many values and letters a reading holds, each counted each time it is reached (what is shared counts as often as it is met; a slice's spare places count too). A statement '..UptoSaid' is the law's where the arguments, and the package variables that the reading takes, are together of bulk at most 1048576: NARROWER than '..Said'. Prove '..Said' where nothing that the law and all that it calls make is longer than what came in: it says more and counts as full. Else prove '..UptoSaid'. A law counts once. -/
mutual
def uptoBulk {H : Type} : DataW H → Nat
  | .lit (.string bytes) => bytes.length + 1
  | .lit _ => 1
  | .nil => 1
  | .ptr d => uptoBulk d + 1
  | .slice elems spare => uptoBulkAll elems + uptoBulkAll spare + 1
  | .agg parts => uptoBulkAll parts + 1
  | .iface _ d => uptoBulk d + 1
  | .map entries => uptoBulkEntries entries + 1
  | .held _ => 1
def uptoBulkAll {H : Type} : List (DataW H) → Nat
  | [] => 0
  | d :: r => uptoBulk d + uptoBulkAll r
def uptoBulkEntries {H : Type} : List (Lit × DataW H) → Nat
  | [] => 0
  | x :: r => uptoBulkEntry x + uptoBulkEntries r
def uptoBulkEntry {H : Type} : Lit × DataW H → Nat
  | (.string bytes, d) => bytes.length + uptoBulk d + 1
  | (_, d) => uptoBulk d + 1
 end
def uptoSmall : (H : Type) → List (DataW H) → Bool := fun _ ds => decide (uptoBulkAll ds ≤ 1048576)
def OpenSpec.upto (s : _root_.Go.ChangeSpec) : _root_.Go.OpenSpec := { _root_.Go.OpenSpec.ofChange s with cond := some uptoSmall }

/-- 'poacherlaw07.PushTells', WHERE WHAT IT READS IS OF BULK AT MOST 1048576: true; the input reads as it did. -/
def pushTellsUptoRow : OpenClaim := { program := "ytnpclhomipomlaa", sum := "76cd3d15d893c89362c275a0d2c37dfc2a1b67fb613c7c66b61e0c826473f27b", func := "poacher/poacherlaw07.PushTells", spec := "pushTells", unfollowed := true, recurses := true, apart := false, narrowed := true }
def PushTellsUptoSaid : Prop := pushTellsUptoRow.holds Try.pinned (OpenSpec.upto pushTellsSpec)

/-- 'poacherlaw07.PushCells', WHERE WHAT IT READS IS OF BULK AT MOST 1048576: true; the input reads as it did. -/
def pushCellsUptoRow : OpenClaim := { program := "ytnpclhomipomlaa", sum := "76cd3d15d893c89362c275a0d2c37dfc2a1b67fb613c7c66b61e0c826473f27b", func := "poacher/poacherlaw07.PushCells", spec := "pushCells", unfollowed := true, recurses := true, apart := false, narrowed := true }
def PushCellsUptoSaid : Prop := pushCellsUptoRow.holds Try.pinned (OpenSpec.upto pushCellsSpec)

/-- 'poacherlaw07.PushOther', WHERE WHAT IT READS IS OF BULK AT MOST 1048576: true; the input reads as it did. -/
def pushOtherUptoRow : OpenClaim := { program := "ytnpclhomipomlaa", sum := "76cd3d15d893c89362c275a0d2c37dfc2a1b67fb613c7c66b61e0c826473f27b", func := "poacher/poacherlaw07.PushOther", spec := "pushOther", unfollowed := true, recurses := true, apart := false, narrowed := true }
def PushOtherUptoSaid : Prop := pushOtherUptoRow.holds Try.pinned (OpenSpec.upto pushOtherSpec)

/-- 'poacherlaw07.PushSeen', WHERE WHAT IT READS IS OF BULK AT MOST 1048576: true; the input reads as it did. -/
def pushSeenUptoRow : OpenClaim := { program := "ytnpclhomipomlaa", sum := "76cd3d15d893c89362c275a0d2c37dfc2a1b67fb613c7c66b61e0c826473f27b", func := "poacher/poacherlaw07.PushSeen", spec := "pushSeen", unfollowed := true, recurses := true, apart := false, narrowed := true }
def PushSeenUptoSaid : Prop := pushSeenUptoRow.holds Try.pinned (OpenSpec.upto pushSeenSpec)

/-- 'poacherlaw07.PushGoes', WHERE WHAT IT READS IS OF BULK AT MOST 1048576: true; the input reads as it did. -/
def pushGoesUptoRow : OpenClaim := { program := "ytnpclhomipomlaa", sum := "76cd3d15d893c89362c275a0d2c37dfc2a1b67fb613c7c66b61e0c826473f27b", func := "poacher/poacherlaw07.PushGoes", spec := "pushGoes", unfollowed := true, recurses := true, apart := false, narrowed := true }
def PushGoesUptoSaid : Prop := pushGoesUptoRow.holds Try.pinned (OpenSpec.upto pushGoesSpec)

/-- 'poacherlaw09.StealTells', WHERE WHAT IT READS IS OF BULK AT MOST 1048576: true; the input reads as it did. -/
def stealTellsUptoRow : OpenClaim := { program := "ytnpclhomipomlaa", sum := "76cd3d15d893c89362c275a0d2c37dfc2a1b67fb613c7c66b61e0c826473f27b", func := "poacher/poacherlaw09.StealTells", spec := "stealTells", unfollowed := true, recurses := true, apart := false, narrowed := true }
def StealTellsUptoSaid : Prop := stealTellsUptoRow.holds Try.pinned (OpenSpec.upto stealTellsSpec)

/-- 'poacherlaw09.StealAbort', WHERE WHAT IT READS IS OF BULK AT MOST 1048576: true; the input reads as it did. -/
def stealAbortUptoRow : OpenClaim := { program := "ytnpclhomipomlaa", sum := "76cd3d15d893c89362c275a0d2c37dfc2a1b67fb613c7c66b61e0c826473f27b", func := "poacher/poacherlaw09.StealAbort", spec := "stealAbort", unfollowed := true, recurses := true, apart := false, narrowed := true }
def StealAbortUptoSaid : Prop := stealAbortUptoRow.holds Try.pinned (OpenSpec.upto stealAbortSpec)

/-- 'poacherlaw09.StealCells', WHERE WHAT IT READS IS OF BULK AT MOST 1048576: true; the input reads as it did. -/
def stealCellsUptoRow : OpenClaim := { program := "ytnpclhomipomlaa", sum := "76cd3d15d893c89362c275a0d2c37dfc2a1b67fb613c7c66b61e0c826473f27b", func := "poacher/poacherlaw09.StealCells", spec := "stealCells", unfollowed := true, recurses := true, apart := false, narrowed := true }
def StealCellsUptoSaid : Prop := stealCellsUptoRow.holds Try.pinned (OpenSpec.upto stealCellsSpec)

/-- 'poacherlaw07.PushAlone', WHERE WHAT IT READS IS OF BULK AT MOST 1048576: true; the input reads as it did. -/
def pushAloneUptoRow : OpenClaim := { program := "ytnpclhomipomlaa", sum := "76cd3d15d893c89362c275a0d2c37dfc2a1b67fb613c7c66b61e0c826473f27b", func := "poacher/poacherlaw07.PushAlone", spec := "pushAlone", unfollowed := true, recurses := true, apart := false, narrowed := true }
def PushAloneUptoSaid : Prop := pushAloneUptoRow.holds Try.pinned (OpenSpec.upto pushAloneSpec)

/-- 'poacherlaw08.PopTells', WHERE WHAT IT READS IS OF BULK AT MOST 1048576: true; the input reads as it did. -/
def popTellsUptoRow : OpenClaim := { program := "ytnpclhomipomlaa", sum := "76cd3d15d893c89362c275a0d2c37dfc2a1b67fb613c7c66b61e0c826473f27b", func := "poacher/poacherlaw08.PopTells", spec := "popTells", unfollowed := true, recurses := true, apart := false, narrowed := true }
def PopTellsUptoSaid : Prop := popTellsUptoRow.holds Try.pinned (OpenSpec.upto popTellsSpec)

/-- 'poacherlaw08.PopCells', WHERE WHAT IT READS IS OF BULK AT MOST 1048576: true; the input reads as it did. -/
def popCellsUptoRow : OpenClaim := { program := "ytnpclhomipomlaa", sum := "76cd3d15d893c89362c275a0d2c37dfc2a1b67fb613c7c66b61e0c826473f27b", func := "poacher/poacherlaw08.PopCells", spec := "popCells", unfollowed := true, recurses := true, apart := false, narrowed := true }
def PopCellsUptoSaid : Prop := popCellsUptoRow.holds Try.pinned (OpenSpec.upto popCellsSpec)

/-- 'poacherlaw08.PopOver', WHERE WHAT IT READS IS OF BULK AT MOST 1048576: true; the input reads as it did. -/
def popOverUptoRow : OpenClaim := { program := "ytnpclhomipomlaa", sum := "76cd3d15d893c89362c275a0d2c37dfc2a1b67fb613c7c66b61e0c826473f27b", func := "poacher/poacherlaw08.PopOver", spec := "popOver", unfollowed := true, recurses := true, apart := false, narrowed := true }
def PopOverUptoSaid : Prop := popOverUptoRow.holds Try.pinned (OpenSpec.upto popOverSpec)

/-- 'poacherlaw08.PopAll', WHERE WHAT IT READS IS OF BULK AT MOST 1048576: true; the input reads as it did. -/
def popAllUptoRow : OpenClaim := { program := "ytnpclhomipomlaa", sum := "76cd3d15d893c89362c275a0d2c37dfc2a1b67fb613c7c66b61e0c826473f27b", func := "poacher/poacherlaw08.PopAll", spec := "popAll", unfollowed := true, recurses := true, apart := false, narrowed := true }
def PopAllUptoSaid : Prop := popAllUptoRow.holds Try.pinned (OpenSpec.upto popAllSpec)

/-- 'poacherlaw09.StealLate', WHERE WHAT IT READS IS OF BULK AT MOST 1048576: true; the input reads as it did. -/
def stealLateUptoRow : OpenClaim := { program := "ytnpclhomipomlaa", sum := "76cd3d15d893c89362c275a0d2c37dfc2a1b67fb613c7c66b61e0c826473f27b", func := "poacher/poacherlaw09.StealLate", spec := "stealLate", unfollowed := true, recurses := true, apart := false, narrowed := true }
def StealLateUptoSaid : Prop := stealLateUptoRow.holds Try.pinned (OpenSpec.upto stealLateSpec)

/-- 'poacherlaw09.StealPush', WHERE WHAT IT READS IS OF BULK AT MOST 1048576: true; the input reads as it did. -/
def stealPushUptoRow : OpenClaim := { program := "ytnpclhomipomlaa", sum := "76cd3d15d893c89362c275a0d2c37dfc2a1b67fb613c7c66b61e0c826473f27b", func := "poacher/poacherlaw09.StealPush", spec := "stealPush", unfollowed := true, recurses := true, apart := false, narrowed := true }
def StealPushUptoSaid : Prop := stealPushUptoRow.holds Try.pinned (OpenSpec.upto stealPushSpec)

/-- 'poacherlaw09.StealAlone', WHERE WHAT IT READS IS OF BULK AT MOST 1048576: true; the input reads as it did. -/
def stealAloneUptoRow : OpenClaim := { program := "ytnpclhomipomlaa", sum := "76cd3d15d893c89362c275a0d2c37dfc2a1b67fb613c7c66b61e0c826473f27b", func := "poacher/poacherlaw09.StealAlone", spec := "stealAlone", unfollowed := true, recurses := true, apart := false, narrowed := true }
def StealAloneUptoSaid : Prop := stealAloneUptoRow.holds Try.pinned (OpenSpec.upto stealAloneSpec)

/-- 'poacherlaw08.PopBack', WHERE WHAT IT READS IS OF BULK AT MOST 1048576: true; the input reads as it did. -/
def popBackUptoRow : OpenClaim := { program := "ytnpclhomipomlaa", sum := "76cd3d15d893c89362c275a0d2c37dfc2a1b67fb613c7c66b61e0c826473f27b", func := "poacher/poacherlaw08.PopBack", spec := "popBack", unfollowed := true, recurses := true, apart := false, narrowed := true }
def PopBackUptoSaid : Prop := popBackUptoRow.holds Try.pinned (OpenSpec.upto popBackSpec)

/-- 'poacherlaw08.PopAlone', WHERE WHAT IT READS IS OF BULK AT MOST 1048576: true; the input reads as it did. -/
def popAloneUptoRow : OpenClaim := { program := "ytnpclhomipomlaa", sum := "76cd3d15d893c89362c275a0d2c37dfc2a1b67fb613c7c66b61e0c826473f27b", func := "poacher/poacherlaw08.PopAlone", spec := "popAlone", unfollowed := true, recurses := true, apart := false, narrowed := true }
def PopAloneUptoSaid : Prop := popAloneUptoRow.holds Try.pinned (OpenSpec.upto popAloneSpec)

end Rows
end Go.Proofs.Ytnpclhomipomlaa
