/-
  No cell of these rows narrows 'for every input' (looked for: loops, veiled, ifaces, maps, wideKeys, modest, calm, conditions, laid).
  DERIVED. THE GIVEN ROWS OF THIS SEAT. 13 by the template 'for every input the law returns true; each argument reads behind the call as it read before'; 0 by the template 'total and deterministic' (their statements: YtegfjolkcaoonaaTotals.lean).
  GIVEN WITH THE SEED: the statements are not yours to turn. If you find one false, say at which input.
  Laid BY PROGRAM, IN A SANDBOX (cutbox-rows.mjs): the forced cells as the released guide's own fill.sh prints them over the translation 6e0116684751048f… (all of the seat's roots in one cut). By AI agents, Wed Nov 11 2026. No macro, syntax, notation, axiom, sorry.
-/
import Derived.Test.YtegfjolkcaoonaaChecked
import GoSem.Claim
import GoSem.ClaimJoined
import GoSem.ClaimMapViews
import Derived.JoinedTies
import Derived.KernelRfl
namespace Go.Proofs.Ytegfjolkcaoonaa
/- THE CELL 'sum', in the pinned program and in every row, IS THE sha256 OF THE DUMP (.gsa) THAT YtegfjolkcaoonaaProg.lean LOADS. Nothing in Lean hashes anything: it is a label: what it is worth is what the hold of that sum in a sandbox is worth. -/
noncomputable def Try.pinned : Pinned := { name := "ytegfjolkcaoonaa", sum := "6e0116684751048f12b760176e8716d286d70201f6002ecd632c1c4316af1afc", checked := Try.checked }
namespace Rows
def none {H : Type} : Left H := { results := [], args := [] }

/-- 'poacherlaw06.FrameTells': WHATEVER THE INPUT: true; the input reads as it did. -/
def frameTellsSpec : ChangeSpec := { name := "frameTells", fn := fun _ => fun
  | [d1, d2, d3, d4] => { results := [.lit (.bool true)], args := [d1, d2, d3, d4] }
  | _ => none }
def frameTellsRow : OpenClaim := { program := "ytegfjolkcaoonaa", sum := "6e0116684751048f12b760176e8716d286d70201f6002ecd632c1c4316af1afc", func := "poacher/poacherlaw06.FrameTells", spec := "frameTells", unfollowed := true, recurses := true, apart := false }
def FrameTellsSaid : Prop := frameTellsRow.holds Try.pinned (OpenSpec.ofChange frameTellsSpec)

/-- ITS FALSE NEIGHBOUR: 'it returns false'. Refute it at one input. -/
def frameTellsWrong : ChangeSpec := { name := "frameTells", fn := fun _ => fun
  | [d1, d2, d3, d4] => { results := [.lit (.bool false)], args := [d1, d2, d3, d4] }
  | _ => none }
def FrameTellsWrongFalsely : Prop := frameTellsRow.holds Try.pinned (OpenSpec.ofChange frameTellsWrong)

/-- 'poacherlaw06.FrameStack': WHATEVER THE INPUT: true; the input reads as it did. -/
def frameStackSpec : ChangeSpec := { name := "frameStack", fn := fun _ => fun
  | [d1, d2, d3] => { results := [.lit (.bool true)], args := [d1, d2, d3] }
  | _ => none }
def frameStackRow : OpenClaim := { program := "ytegfjolkcaoonaa", sum := "6e0116684751048f12b760176e8716d286d70201f6002ecd632c1c4316af1afc", func := "poacher/poacherlaw06.FrameStack", spec := "frameStack", unfollowed := true, recurses := true, apart := false }
def FrameStackSaid : Prop := frameStackRow.holds Try.pinned (OpenSpec.ofChange frameStackSpec)

/-- ITS FALSE NEIGHBOUR: 'it returns false'. Refute it at one input. -/
def frameStackWrong : ChangeSpec := { name := "frameStack", fn := fun _ => fun
  | [d1, d2, d3] => { results := [.lit (.bool false)], args := [d1, d2, d3] }
  | _ => none }
def FrameStackWrongFalsely : Prop := frameStackRow.holds Try.pinned (OpenSpec.ofChange frameStackWrong)

/-- 'poacherlaw06.FrameOver': WHATEVER THE INPUT: true; the input reads as it did. -/
def frameOverSpec : ChangeSpec := { name := "frameOver", fn := fun _ => fun
  | [d1, d2, d3] => { results := [.lit (.bool true)], args := [d1, d2, d3] }
  | _ => none }
def frameOverRow : OpenClaim := { program := "ytegfjolkcaoonaa", sum := "6e0116684751048f12b760176e8716d286d70201f6002ecd632c1c4316af1afc", func := "poacher/poacherlaw06.FrameOver", spec := "frameOver", unfollowed := true, recurses := true, apart := false }
def FrameOverSaid : Prop := frameOverRow.holds Try.pinned (OpenSpec.ofChange frameOverSpec)

/-- ITS FALSE NEIGHBOUR: 'it returns false'. Refute it at one input. -/
def frameOverWrong : ChangeSpec := { name := "frameOver", fn := fun _ => fun
  | [d1, d2, d3] => { results := [.lit (.bool false)], args := [d1, d2, d3] }
  | _ => none }
def FrameOverWrongFalsely : Prop := frameOverRow.holds Try.pinned (OpenSpec.ofChange frameOverWrong)

/-- 'poacherlaw06.FrameRoom': WHATEVER THE INPUT: true; the input reads as it did. -/
def frameRoomSpec : ChangeSpec := { name := "frameRoom", fn := fun _ => fun
  | [d1, d2, d3, d4] => { results := [.lit (.bool true)], args := [d1, d2, d3, d4] }
  | _ => none }
def frameRoomRow : OpenClaim := { program := "ytegfjolkcaoonaa", sum := "6e0116684751048f12b760176e8716d286d70201f6002ecd632c1c4316af1afc", func := "poacher/poacherlaw06.FrameRoom", spec := "frameRoom", unfollowed := true, recurses := true, apart := false }
def FrameRoomSaid : Prop := frameRoomRow.holds Try.pinned (OpenSpec.ofChange frameRoomSpec)

/-- ITS FALSE NEIGHBOUR: 'it returns false'. Refute it at one input. -/
def frameRoomWrong : ChangeSpec := { name := "frameRoom", fn := fun _ => fun
  | [d1, d2, d3, d4] => { results := [.lit (.bool false)], args := [d1, d2, d3, d4] }
  | _ => none }
def FrameRoomWrongFalsely : Prop := frameRoomRow.holds Try.pinned (OpenSpec.ofChange frameRoomWrong)

/-- 'poacherlaw06.FrameEnd': WHATEVER THE INPUT: true; the input reads as it did. -/
def frameEndSpec : ChangeSpec := { name := "frameEnd", fn := fun _ => fun
  | [d1, d2, d3] => { results := [.lit (.bool true)], args := [d1, d2, d3] }
  | _ => none }
def frameEndRow : OpenClaim := { program := "ytegfjolkcaoonaa", sum := "6e0116684751048f12b760176e8716d286d70201f6002ecd632c1c4316af1afc", func := "poacher/poacherlaw06.FrameEnd", spec := "frameEnd", unfollowed := true, recurses := true, apart := false }
def FrameEndSaid : Prop := frameEndRow.holds Try.pinned (OpenSpec.ofChange frameEndSpec)

/-- ITS FALSE NEIGHBOUR: 'it returns false'. Refute it at one input. -/
def frameEndWrong : ChangeSpec := { name := "frameEnd", fn := fun _ => fun
  | [d1, d2, d3] => { results := [.lit (.bool false)], args := [d1, d2, d3] }
  | _ => none }
def FrameEndWrongFalsely : Prop := frameEndRow.holds Try.pinned (OpenSpec.ofChange frameEndWrong)

/-- 'poacherlaw06.FrameEnds': WHATEVER THE INPUT: true; the input reads as it did. -/
def frameEndsSpec : ChangeSpec := { name := "frameEnds", fn := fun _ => fun
  | [d] => { results := [.lit (.bool true)], args := [d] }
  | _ => none }
def frameEndsRow : OpenClaim := { program := "ytegfjolkcaoonaa", sum := "6e0116684751048f12b760176e8716d286d70201f6002ecd632c1c4316af1afc", func := "poacher/poacherlaw06.FrameEnds", spec := "frameEnds", unfollowed := true, recurses := true, apart := false }
def FrameEndsSaid : Prop := frameEndsRow.holds Try.pinned (OpenSpec.ofChange frameEndsSpec)

/-- ITS FALSE NEIGHBOUR: 'it returns false'. Refute it at one input. -/
def frameEndsWrong : ChangeSpec := { name := "frameEnds", fn := fun _ => fun
  | [d] => { results := [.lit (.bool false)], args := [d] }
  | _ => none }
def FrameEndsWrongFalsely : Prop := frameEndsRow.holds Try.pinned (OpenSpec.ofChange frameEndsWrong)

/-- 'poacherlaw01.CellTells': WHATEVER THE INPUT: true; the input reads as it did. -/
def cellTellsSpec : ChangeSpec := { name := "cellTells", fn := fun _ => fun
  | [d1, d2, d3, d4, d5] => { results := [.lit (.bool true)], args := [d1, d2, d3, d4, d5] }
  | _ => none }
def cellTellsRow : OpenClaim := { program := "ytegfjolkcaoonaa", sum := "6e0116684751048f12b760176e8716d286d70201f6002ecd632c1c4316af1afc", func := "poacher/poacherlaw01.CellTells", spec := "cellTells", unfollowed := true, recurses := true, apart := false }
def CellTellsSaid : Prop := cellTellsRow.holds Try.pinned (OpenSpec.ofChange cellTellsSpec)

/-- ITS FALSE NEIGHBOUR: 'it returns false'. Refute it at one input. -/
def cellTellsWrong : ChangeSpec := { name := "cellTells", fn := fun _ => fun
  | [d1, d2, d3, d4, d5] => { results := [.lit (.bool false)], args := [d1, d2, d3, d4, d5] }
  | _ => none }
def CellTellsWrongFalsely : Prop := cellTellsRow.holds Try.pinned (OpenSpec.ofChange cellTellsWrong)

/-- 'poacherlaw01.CellOther': WHATEVER THE INPUT: true; the input reads as it did. -/
def cellOtherSpec : ChangeSpec := { name := "cellOther", fn := fun _ => fun
  | [d1, d2, d3, d4, d5] => { results := [.lit (.bool true)], args := [d1, d2, d3, d4, d5] }
  | _ => none }
def cellOtherRow : OpenClaim := { program := "ytegfjolkcaoonaa", sum := "6e0116684751048f12b760176e8716d286d70201f6002ecd632c1c4316af1afc", func := "poacher/poacherlaw01.CellOther", spec := "cellOther", unfollowed := true, recurses := true, apart := false }
def CellOtherSaid : Prop := cellOtherRow.holds Try.pinned (OpenSpec.ofChange cellOtherSpec)

/-- ITS FALSE NEIGHBOUR: 'it returns false'. Refute it at one input. -/
def cellOtherWrong : ChangeSpec := { name := "cellOther", fn := fun _ => fun
  | [d1, d2, d3, d4, d5] => { results := [.lit (.bool false)], args := [d1, d2, d3, d4, d5] }
  | _ => none }
def CellOtherWrongFalsely : Prop := cellOtherRow.holds Try.pinned (OpenSpec.ofChange cellOtherWrong)

/-- 'poacherlaw01.CellCas': WHATEVER THE INPUT: true; the input reads as it did. -/
def cellCasSpec : ChangeSpec := { name := "cellCas", fn := fun _ => fun
  | [d1, d2, d3, d4] => { results := [.lit (.bool true)], args := [d1, d2, d3, d4] }
  | _ => none }
def cellCasRow : OpenClaim := { program := "ytegfjolkcaoonaa", sum := "6e0116684751048f12b760176e8716d286d70201f6002ecd632c1c4316af1afc", func := "poacher/poacherlaw01.CellCas", spec := "cellCas", unfollowed := true, recurses := true, apart := false }
def CellCasSaid : Prop := cellCasRow.holds Try.pinned (OpenSpec.ofChange cellCasSpec)

/-- ITS FALSE NEIGHBOUR: 'it returns false'. Refute it at one input. -/
def cellCasWrong : ChangeSpec := { name := "cellCas", fn := fun _ => fun
  | [d1, d2, d3, d4] => { results := [.lit (.bool false)], args := [d1, d2, d3, d4] }
  | _ => none }
def CellCasWrongFalsely : Prop := cellCasRow.holds Try.pinned (OpenSpec.ofChange cellCasWrong)

/-- 'poacherlaw01.CellAdd': WHATEVER THE INPUT: true; the input reads as it did. -/
def cellAddSpec : ChangeSpec := { name := "cellAdd", fn := fun _ => fun
  | [d1, d2, d3, d4] => { results := [.lit (.bool true)], args := [d1, d2, d3, d4] }
  | _ => none }
def cellAddRow : OpenClaim := { program := "ytegfjolkcaoonaa", sum := "6e0116684751048f12b760176e8716d286d70201f6002ecd632c1c4316af1afc", func := "poacher/poacherlaw01.CellAdd", spec := "cellAdd", unfollowed := true, recurses := true, apart := false }
def CellAddSaid : Prop := cellAddRow.holds Try.pinned (OpenSpec.ofChange cellAddSpec)

/-- ITS FALSE NEIGHBOUR: 'it returns false'. Refute it at one input. -/
def cellAddWrong : ChangeSpec := { name := "cellAdd", fn := fun _ => fun
  | [d1, d2, d3, d4] => { results := [.lit (.bool false)], args := [d1, d2, d3, d4] }
  | _ => none }
def CellAddWrongFalsely : Prop := cellAddRow.holds Try.pinned (OpenSpec.ofChange cellAddWrong)

/-- 'poacherlaw01.CellLoad': WHATEVER THE INPUT: true; the input reads as it did. -/
def cellLoadSpec : ChangeSpec := { name := "cellLoad", fn := fun _ => fun
  | [d1, d2, d3, d4] => { results := [.lit (.bool true)], args := [d1, d2, d3, d4] }
  | _ => none }
def cellLoadRow : OpenClaim := { program := "ytegfjolkcaoonaa", sum := "6e0116684751048f12b760176e8716d286d70201f6002ecd632c1c4316af1afc", func := "poacher/poacherlaw01.CellLoad", spec := "cellLoad", unfollowed := true, recurses := true, apart := false }
def CellLoadSaid : Prop := cellLoadRow.holds Try.pinned (OpenSpec.ofChange cellLoadSpec)

/-- ITS FALSE NEIGHBOUR: 'it returns false'. Refute it at one input. -/
def cellLoadWrong : ChangeSpec := { name := "cellLoad", fn := fun _ => fun
  | [d1, d2, d3, d4] => { results := [.lit (.bool false)], args := [d1, d2, d3, d4] }
  | _ => none }
def CellLoadWrongFalsely : Prop := cellLoadRow.holds Try.pinned (OpenSpec.ofChange cellLoadWrong)

/-- 'poacherlaw01.CellTwo': WHATEVER THE INPUT: true; the input reads as it did. -/
def cellTwoSpec : ChangeSpec := { name := "cellTwo", fn := fun _ => fun
  | [d1, d2, d3, d4, d5] => { results := [.lit (.bool true)], args := [d1, d2, d3, d4, d5] }
  | _ => none }
def cellTwoRow : OpenClaim := { program := "ytegfjolkcaoonaa", sum := "6e0116684751048f12b760176e8716d286d70201f6002ecd632c1c4316af1afc", func := "poacher/poacherlaw01.CellTwo", spec := "cellTwo", unfollowed := true, recurses := true, apart := false }
def CellTwoSaid : Prop := cellTwoRow.holds Try.pinned (OpenSpec.ofChange cellTwoSpec)

/-- ITS FALSE NEIGHBOUR: 'it returns false'. Refute it at one input. -/
def cellTwoWrong : ChangeSpec := { name := "cellTwo", fn := fun _ => fun
  | [d1, d2, d3, d4, d5] => { results := [.lit (.bool false)], args := [d1, d2, d3, d4, d5] }
  | _ => none }
def CellTwoWrongFalsely : Prop := cellTwoRow.holds Try.pinned (OpenSpec.ofChange cellTwoWrong)

/-- 'poacherlaw01.CellSame': WHATEVER THE INPUT: true; the input reads as it did. -/
def cellSameSpec : ChangeSpec := { name := "cellSame", fn := fun _ => fun
  | [d1, d2, d3] => { results := [.lit (.bool true)], args := [d1, d2, d3] }
  | _ => none }
def cellSameRow : OpenClaim := { program := "ytegfjolkcaoonaa", sum := "6e0116684751048f12b760176e8716d286d70201f6002ecd632c1c4316af1afc", func := "poacher/poacherlaw01.CellSame", spec := "cellSame", unfollowed := true, recurses := true, apart := false }
def CellSameSaid : Prop := cellSameRow.holds Try.pinned (OpenSpec.ofChange cellSameSpec)

/-- ITS FALSE NEIGHBOUR: 'it returns false'. Refute it at one input. -/
def cellSameWrong : ChangeSpec := { name := "cellSame", fn := fun _ => fun
  | [d1, d2, d3] => { results := [.lit (.bool false)], args := [d1, d2, d3] }
  | _ => none }
def CellSameWrongFalsely : Prop := cellSameRow.holds Try.pinned (OpenSpec.ofChange cellSameWrong)

/- THE SECOND FORM. 'bulk': how many values and letters a reading holds, each counted each time it is reached (what is shared counts as often as it is met; a slice's spare places count too). A statement '..UptoSaid' is the law's where the arguments, and the package variables that the reading takes, are together of bulk at most 1048576: NARROWER than '..Said'. Prove '..Said' where nothing that the law and all that it calls make is longer than what came in: it says more and counts as full. Else prove '..UptoSaid'. A law counts once. -/
mutual
def uptoBulk {H : Type} : DataW H → Nat
  | .lit (.string bytes) => bytes.length + 1
  | .lit _ => 1
  | .nil => 1
  | .ptr d => uptoBulk d + 1
  | .slice elems spare => uptoBulkAll elems + uptoBulkAll spare + 1
  | .agg parts => uptoBulkAll parts + 1
  | .iface _ d => uptoBulk d + 1
  | .map entries => uptoBulkEntries entries + 1
  | .held _ => 1
def uptoBulkAll {H : Type} : List (DataW H) → Nat
  | [] => 0
  | d :: r => uptoBulk d + uptoBulkAll r
def uptoBulkEntries {H : Type} : List (Lit × DataW H) → Nat
  | [] => 0
  | x :: r => uptoBulkEntry x + uptoBulkEntries r
def uptoBulkEntry {H : Type} : Lit × DataW H → Nat
  | (.string bytes, d) => bytes.length + uptoBulk d + 1
  | (_, d) => uptoBulk d + 1
 end
def uptoSmall : (H : Type) → List (DataW H) → Bool := fun _ ds => decide (uptoBulkAll ds ≤ 1048576)
def OpenSpec.upto (s : _root_.Go.ChangeSpec) : _root_.Go.OpenSpec := { _root_.Go.OpenSpec.ofChange s with cond := some uptoSmall }

/-- 'poacherlaw06.FrameTells', WHERE WHAT IT READS IS OF BULK AT MOST 1048576: true; the input reads as it did. -/
def frameTellsUptoRow : OpenClaim := { program := "ytegfjolkcaoonaa", sum := "6e0116684751048f12b760176e8716d286d70201f6002ecd632c1c4316af1afc", func := "poacher/poacherlaw06.FrameTells", spec := "frameTells", unfollowed := true, recurses := true, apart := false, narrowed := true }
def FrameTellsUptoSaid : Prop := frameTellsUptoRow.holds Try.pinned (OpenSpec.upto frameTellsSpec)

/-- 'poacherlaw06.FrameStack', WHERE WHAT IT READS IS OF BULK AT MOST 1048576: true; the input reads as it did. -/
def frameStackUptoRow : OpenClaim := { program := "ytegfjolkcaoonaa", sum := "6e0116684751048f12b760176e8716d286d70201f6002ecd632c1c4316af1afc", func := "poacher/poacherlaw06.FrameStack", spec := "frameStack", unfollowed := true, recurses := true, apart := false, narrowed := true }
def FrameStackUptoSaid : Prop := frameStackUptoRow.holds Try.pinned (OpenSpec.upto frameStackSpec)

/-- 'poacherlaw06.FrameOver', WHERE WHAT IT READS IS OF BULK AT MOST 1048576: true; the input reads as it did. -/
def frameOverUptoRow : OpenClaim := { program := "ytegfjolkcaoonaa", sum := "6e0116684751048f12b760176e8716d286d70201f6002ecd632c1c4316af1afc", func := "poacher/poacherlaw06.FrameOver", spec := "frameOver", unfollowed := true, recurses := true, apart := false, narrowed := true }
def FrameOverUptoSaid : Prop := frameOverUptoRow.holds Try.pinned (OpenSpec.upto frameOverSpec)

/-- 'poacherlaw06.FrameRoom', WHERE WHAT IT READS IS OF BULK AT MOST 1048576: true; the input reads as it did. -/
def frameRoomUptoRow : OpenClaim := { program := "ytegfjolkcaoonaa", sum := "6e0116684751048f12b760176e8716d286d70201f6002ecd632c1c4316af1afc", func := "poacher/poacherlaw06.FrameRoom", spec := "frameRoom", unfollowed := true, recurses := true, apart := false, narrowed := true }
def FrameRoomUptoSaid : Prop := frameRoomUptoRow.holds Try.pinned (OpenSpec.upto frameRoomSpec)

/-- 'poacherlaw06.FrameEnd', WHERE WHAT IT READS IS OF BULK AT MOST 1048576: true; the input reads as it did. -/
def frameEndUptoRow : OpenClaim := { program := "ytegfjolkcaoonaa", sum := "6e0116684751048f12b760176e8716d286d70201f6002ecd632c1c4316af1afc", func := "poacher/poacherlaw06.FrameEnd", spec := "frameEnd", unfollowed := true, recurses := true, apart := false, narrowed := true }
def FrameEndUptoSaid : Prop := frameEndUptoRow.holds Try.pinned (OpenSpec.upto frameEndSpec)

/-- 'poacherlaw06.FrameEnds', WHERE WHAT IT READS IS OF BULK AT MOST 1048576: true; the input reads as it did. -/
def frameEndsUptoRow : OpenClaim := { program := "ytegfjolkcaoonaa", sum := "6e0116684751048f12b760176e8716d286d70201f6002ecd632c1c4316af1afc", func := "poacher/poacherlaw06.FrameEnds", spec := "frameEnds", unfollowed := true, recurses := true, apart := false, narrowed := true }
def FrameEndsUptoSaid : Prop := frameEndsUptoRow.holds Try.pinned (OpenSpec.upto frameEndsSpec)

/-- 'poacherlaw01.CellTells', WHERE WHAT IT READS IS OF BULK AT MOST 1048576: true; the input reads as it did. -/
def cellTellsUptoRow : OpenClaim := { program := "ytegfjolkcaoonaa", sum := "6e0116684751048f12b760176e8716d286d70201f6002ecd632c1c4316af1afc", func := "poacher/poacherlaw01.CellTells", spec := "cellTells", unfollowed := true, recurses := true, apart := false, narrowed := true }
def CellTellsUptoSaid : Prop := cellTellsUptoRow.holds Try.pinned (OpenSpec.upto cellTellsSpec)

/-- 'poacherlaw01.CellOther', WHERE WHAT IT READS IS OF BULK AT MOST 1048576: true; the input reads as it did. -/
def cellOtherUptoRow : OpenClaim := { program := "ytegfjolkcaoonaa", sum := "6e0116684751048f12b760176e8716d286d70201f6002ecd632c1c4316af1afc", func := "poacher/poacherlaw01.CellOther", spec := "cellOther", unfollowed := true, recurses := true, apart := false, narrowed := true }
def CellOtherUptoSaid : Prop := cellOtherUptoRow.holds Try.pinned (OpenSpec.upto cellOtherSpec)

/-- 'poacherlaw01.CellCas', WHERE WHAT IT READS IS OF BULK AT MOST 1048576: true; the input reads as it did. -/
def cellCasUptoRow : OpenClaim := { program := "ytegfjolkcaoonaa", sum := "6e0116684751048f12b760176e8716d286d70201f6002ecd632c1c4316af1afc", func := "poacher/poacherlaw01.CellCas", spec := "cellCas", unfollowed := true, recurses := true, apart := false, narrowed := true }
def CellCasUptoSaid : Prop := cellCasUptoRow.holds Try.pinned (OpenSpec.upto cellCasSpec)

/-- 'poacherlaw01.CellAdd', WHERE WHAT IT READS IS OF BULK AT MOST 1048576: true; the input reads as it did. -/
def cellAddUptoRow : OpenClaim := { program := "ytegfjolkcaoonaa", sum := "6e0116684751048f12b760176e8716d286d70201f6002ecd632c1c4316af1afc", func := "poacher/poacherlaw01.CellAdd", spec := "cellAdd", unfollowed := true, recurses := true, apart := false, narrowed := true }
def CellAddUptoSaid : Prop := cellAddUptoRow.holds Try.pinned (OpenSpec.upto cellAddSpec)

/-- 'poacherlaw01.CellLoad', WHERE WHAT IT READS IS OF BULK AT MOST 1048576: true; the input reads as it did. -/
def cellLoadUptoRow : OpenClaim := { program := "ytegfjolkcaoonaa", sum := "6e0116684751048f12b760176e8716d286d70201f6002ecd632c1c4316af1afc", func := "poacher/poacherlaw01.CellLoad", spec := "cellLoad", unfollowed := true, recurses := true, apart := false, narrowed := true }
def CellLoadUptoSaid : Prop := cellLoadUptoRow.holds Try.pinned (OpenSpec.upto cellLoadSpec)

/-- 'poacherlaw01.CellTwo', WHERE WHAT IT READS IS OF BULK AT MOST 1048576: true; the input reads as it did. -/
def cellTwoUptoRow : OpenClaim := { program := "ytegfjolkcaoonaa", sum := "6e0116684751048f12b760176e8716d286d70201f6002ecd632c1c4316af1afc", func := "poacher/poacherlaw01.CellTwo", spec := "cellTwo", unfollowed := true, recurses := true, apart := false, narrowed := true }
def CellTwoUptoSaid : Prop := cellTwoUptoRow.holds Try.pinned (OpenSpec.upto cellTwoSpec)

/-- 'poacherlaw01.CellSame', WHERE WHAT IT READS IS OF BULK AT MOST 1048576: true; the input reads as it did. -/
def cellSameUptoRow : OpenClaim := { program := "ytegfjolkcaoonaa", sum := "6e0116684751048f12b760176e8716d286d70201f6002ecd632c1c4316af1afc", func := "poacher/poacherlaw01.CellSame", spec := "cellSame", unfollowed := true, recurses := true, apart := false, narrowed := true }
def CellSameUptoSaid : Prop := cellSameUptoRow.holds Try.pinned (OpenSpec.upto cellSameSpec)

end Rows
end Go.Proofs.Ytegfjolkcaoonaa
