/-
  No cell of these rows narrows 'for every input' (looked for: loops, veiled, ifaces, maps, wideKeys, modest, calm, conditions, laid).
  DERIVED. THE GIVEN ROWS OF THIS SEAT. 7 by the template 'for every input the law returns true; each argument reads behind the call as it read before'; 0 by the template 'total and deterministic' (their statements: YtppacheibhanbaaTotals.lean).
  GIVEN WITH THE SEED: the statements are not yours to turn. If you find one false, say at which input.
  Laid BY PROGRAM, IN A SANDBOX (cutbox-rows.mjs): the forced cells as the released guide's own fill.sh prints them over the translation 855198b54b5ae18a… (all of the seat's roots in one cut). By AI agents, Wed Nov 11 2026. No macro, syntax, notation, axiom, sorry.
-/
import Derived.Test.YtppacheibhanbaaChecked
import GoSem.Claim
import GoSem.ClaimJoined
import GoSem.ClaimMapViews
import Derived.JoinedTies
import Derived.KernelRfl
namespace Go.Proofs.Ytppacheibhanbaa
/- THE CELL 'sum', in the pinned program and in every row, IS THE sha256 OF THE DUMP (.gsa) THAT YtppacheibhanbaaProg.lean LOADS. Nothing in Lean hashes anything: it is a label: what it is worth is what the hold of that sum in a sandbox is worth. -/
noncomputable def Try.pinned : Pinned := { name := "ytppacheibhanbaa", sum := "855198b54b5ae18ae34d39c546cf2d9948c4297d779af3c3da8e898bce322186", checked := Try.checked }
namespace Rows
def none {H : Type} : Left H := { results := [], args := [] }

/-- 'poacherlaw10.DequeTells': WHATEVER THE INPUT: true; the input reads as it did. -/
def dequeTellsSpec : ChangeSpec := { name := "dequeTells", fn := fun _ => fun
  | [d1, d2, d3, d4, d5, d6] => { results := [.lit (.bool true)], args := [d1, d2, d3, d4, d5, d6] }
  | _ => none }
def dequeTellsRow : OpenClaim := { program := "ytppacheibhanbaa", sum := "855198b54b5ae18ae34d39c546cf2d9948c4297d779af3c3da8e898bce322186", func := "poacher/poacherlaw10.DequeTells", spec := "dequeTells", unfollowed := true, recurses := true, apart := false }
def DequeTellsSaid : Prop := dequeTellsRow.holds Try.pinned (OpenSpec.ofChange dequeTellsSpec)

/-- ITS FALSE NEIGHBOUR: 'it returns false'. Refute it at one input. -/
def dequeTellsWrong : ChangeSpec := { name := "dequeTells", fn := fun _ => fun
  | [d1, d2, d3, d4, d5, d6] => { results := [.lit (.bool false)], args := [d1, d2, d3, d4, d5, d6] }
  | _ => none }
def DequeTellsWrongFalsely : Prop := dequeTellsRow.holds Try.pinned (OpenSpec.ofChange dequeTellsWrong)

/-- 'poacherlaw10.DequeOrder': WHATEVER THE INPUT: true; the input reads as it did. -/
def dequeOrderSpec : ChangeSpec := { name := "dequeOrder", fn := fun _ => fun
  | [d1, d2, d3, d4] => { results := [.lit (.bool true)], args := [d1, d2, d3, d4] }
  | _ => none }
def dequeOrderRow : OpenClaim := { program := "ytppacheibhanbaa", sum := "855198b54b5ae18ae34d39c546cf2d9948c4297d779af3c3da8e898bce322186", func := "poacher/poacherlaw10.DequeOrder", spec := "dequeOrder", unfollowed := true, recurses := true, apart := false }
def DequeOrderSaid : Prop := dequeOrderRow.holds Try.pinned (OpenSpec.ofChange dequeOrderSpec)

/-- ITS FALSE NEIGHBOUR: 'it returns false'. Refute it at one input. -/
def dequeOrderWrong : ChangeSpec := { name := "dequeOrder", fn := fun _ => fun
  | [d1, d2, d3, d4] => { results := [.lit (.bool false)], args := [d1, d2, d3, d4] }
  | _ => none }
def DequeOrderWrongFalsely : Prop := dequeOrderRow.holds Try.pinned (OpenSpec.ofChange dequeOrderWrong)

/-- 'poacherlaw10.DequeFirst': WHATEVER THE INPUT: true; the input reads as it did. -/
def dequeFirstSpec : ChangeSpec := { name := "dequeFirst", fn := fun _ => fun
  | [d1, d2, d3, d4, d5] => { results := [.lit (.bool true)], args := [d1, d2, d3, d4, d5] }
  | _ => none }
def dequeFirstRow : OpenClaim := { program := "ytppacheibhanbaa", sum := "855198b54b5ae18ae34d39c546cf2d9948c4297d779af3c3da8e898bce322186", func := "poacher/poacherlaw10.DequeFirst", spec := "dequeFirst", unfollowed := true, recurses := true, apart := false }
def DequeFirstSaid : Prop := dequeFirstRow.holds Try.pinned (OpenSpec.ofChange dequeFirstSpec)

/-- ITS FALSE NEIGHBOUR: 'it returns false'. Refute it at one input. -/
def dequeFirstWrong : ChangeSpec := { name := "dequeFirst", fn := fun _ => fun
  | [d1, d2, d3, d4, d5] => { results := [.lit (.bool false)], args := [d1, d2, d3, d4, d5] }
  | _ => none }
def DequeFirstWrongFalsely : Prop := dequeFirstRow.holds Try.pinned (OpenSpec.ofChange dequeFirstWrong)

/-- 'poacherlaw10.DequeBoth': WHATEVER THE INPUT: true; the input reads as it did. -/
def dequeBothSpec : ChangeSpec := { name := "dequeBoth", fn := fun _ => fun
  | [d1, d2, d3] => { results := [.lit (.bool true)], args := [d1, d2, d3] }
  | _ => none }
def dequeBothRow : OpenClaim := { program := "ytppacheibhanbaa", sum := "855198b54b5ae18ae34d39c546cf2d9948c4297d779af3c3da8e898bce322186", func := "poacher/poacherlaw10.DequeBoth", spec := "dequeBoth", unfollowed := true, recurses := true, apart := false }
def DequeBothSaid : Prop := dequeBothRow.holds Try.pinned (OpenSpec.ofChange dequeBothSpec)

/-- ITS FALSE NEIGHBOUR: 'it returns false'. Refute it at one input. -/
def dequeBothWrong : ChangeSpec := { name := "dequeBoth", fn := fun _ => fun
  | [d1, d2, d3] => { results := [.lit (.bool false)], args := [d1, d2, d3] }
  | _ => none }
def DequeBothWrongFalsely : Prop := dequeBothRow.holds Try.pinned (OpenSpec.ofChange dequeBothWrong)

/-- 'poacherlaw10.DequeWho': WHATEVER THE INPUT: true; the input reads as it did. -/
def dequeWhoSpec : ChangeSpec := { name := "dequeWho", fn := fun _ => fun
  | [d1, d2, d3, d4, d5] => { results := [.lit (.bool true)], args := [d1, d2, d3, d4, d5] }
  | _ => none }
def dequeWhoRow : OpenClaim := { program := "ytppacheibhanbaa", sum := "855198b54b5ae18ae34d39c546cf2d9948c4297d779af3c3da8e898bce322186", func := "poacher/poacherlaw10.DequeWho", spec := "dequeWho", unfollowed := true, recurses := true, apart := false }
def DequeWhoSaid : Prop := dequeWhoRow.holds Try.pinned (OpenSpec.ofChange dequeWhoSpec)

/-- ITS FALSE NEIGHBOUR: 'it returns false'. Refute it at one input. -/
def dequeWhoWrong : ChangeSpec := { name := "dequeWho", fn := fun _ => fun
  | [d1, d2, d3, d4, d5] => { results := [.lit (.bool false)], args := [d1, d2, d3, d4, d5] }
  | _ => none }
def DequeWhoWrongFalsely : Prop := dequeWhoRow.holds Try.pinned (OpenSpec.ofChange dequeWhoWrong)

/-- 'poacherlaw10.DequeOnce': WHATEVER THE INPUT: true; the input reads as it did. -/
def dequeOnceSpec : ChangeSpec := { name := "dequeOnce", fn := fun _ => fun
  | [d1, d2, d3, d4, d5] => { results := [.lit (.bool true)], args := [d1, d2, d3, d4, d5] }
  | _ => none }
def dequeOnceRow : OpenClaim := { program := "ytppacheibhanbaa", sum := "855198b54b5ae18ae34d39c546cf2d9948c4297d779af3c3da8e898bce322186", func := "poacher/poacherlaw10.DequeOnce", spec := "dequeOnce", unfollowed := true, recurses := true, apart := false }
def DequeOnceSaid : Prop := dequeOnceRow.holds Try.pinned (OpenSpec.ofChange dequeOnceSpec)

/-- ITS FALSE NEIGHBOUR: 'it returns false'. Refute it at one input. -/
def dequeOnceWrong : ChangeSpec := { name := "dequeOnce", fn := fun _ => fun
  | [d1, d2, d3, d4, d5] => { results := [.lit (.bool false)], args := [d1, d2, d3, d4, d5] }
  | _ => none }
def DequeOnceWrongFalsely : Prop := dequeOnceRow.holds Try.pinned (OpenSpec.ofChange dequeOnceWrong)

/-- 'poacherlaw10.DequeRoom': WHATEVER THE INPUT: true; the input reads as it did. -/
def dequeRoomSpec : ChangeSpec := { name := "dequeRoom", fn := fun _ => fun
  | [d1, d2, d3] => { results := [.lit (.bool true)], args := [d1, d2, d3] }
  | _ => none }
def dequeRoomRow : OpenClaim := { program := "ytppacheibhanbaa", sum := "855198b54b5ae18ae34d39c546cf2d9948c4297d779af3c3da8e898bce322186", func := "poacher/poacherlaw10.DequeRoom", spec := "dequeRoom", unfollowed := true, recurses := true, apart := false }
def DequeRoomSaid : Prop := dequeRoomRow.holds Try.pinned (OpenSpec.ofChange dequeRoomSpec)

/-- ITS FALSE NEIGHBOUR: 'it returns false'. Refute it at one input. -/
def dequeRoomWrong : ChangeSpec := { name := "dequeRoom", fn := fun _ => fun
  | [d1, d2, d3] => { results := [.lit (.bool false)], args := [d1, d2, d3] }
  | _ => none }
def DequeRoomWrongFalsely : Prop := dequeRoomRow.holds Try.pinned (OpenSpec.ofChange dequeRoomWrong)

/- THE SECOND FORM. 'bulk': how many values and letters a reading holds, each counted each time it is reached (what is shared counts as often as it is met; a slice's spare places count too). A statement '..UptoSaid' is the law's where the arguments, and the package variables that the reading takes, are together of bulk at most 1048576: NARROWER than '..Said'. Prove '..Said' where nothing that the law and all that it calls make is longer than what came in: it says more and counts as full. Else prove '..UptoSaid'. A law counts once. -/
mutual
def uptoBulk {H : Type} : DataW H → Nat
  | .lit (.string bytes) => bytes.length + 1
  | .lit _ => 1
  | .nil => 1
  | .ptr d => uptoBulk d + 1
  | .slice elems spare => uptoBulkAll elems + uptoBulkAll spare + 1
  | .agg parts => uptoBulkAll parts + 1
  | .iface _ d => uptoBulk d + 1
  | .map entries => uptoBulkEntries entries + 1
  | .held _ => 1
def uptoBulkAll {H : Type} : List (DataW H) → Nat
  | [] => 0
  | d :: r => uptoBulk d + uptoBulkAll r
def uptoBulkEntries {H : Type} : List (Lit × DataW H) → Nat
  | [] => 0
  | x :: r => uptoBulkEntry x + uptoBulkEntries r
def uptoBulkEntry {H : Type} : Lit × DataW H → Nat
  | (.string bytes, d) => bytes.length + uptoBulk d + 1
  | (_, d) => uptoBulk d + 1
 end
def uptoSmall : (H : Type) → List (DataW H) → Bool := fun _ ds => decide (uptoBulkAll ds ≤ 1048576)
def OpenSpec.upto (s : _root_.Go.ChangeSpec) : _root_.Go.OpenSpec := { _root_.Go.OpenSpec.ofChange s with cond := some uptoSmall }

/-- 'poacherlaw10.DequeTells', WHERE WHAT IT READS IS OF BULK AT MOST 1048576: true; the input reads as it did. -/
def dequeTellsUptoRow : OpenClaim := { program := "ytppacheibhanbaa", sum := "855198b54b5ae18ae34d39c546cf2d9948c4297d779af3c3da8e898bce322186", func := "poacher/poacherlaw10.DequeTells", spec := "dequeTells", unfollowed := true, recurses := true, apart := false, narrowed := true }
def DequeTellsUptoSaid : Prop := dequeTellsUptoRow.holds Try.pinned (OpenSpec.upto dequeTellsSpec)

/-- 'poacherlaw10.DequeOrder', WHERE WHAT IT READS IS OF BULK AT MOST 1048576: true; the input reads as it did. -/
def dequeOrderUptoRow : OpenClaim := { program := "ytppacheibhanbaa", sum := "855198b54b5ae18ae34d39c546cf2d9948c4297d779af3c3da8e898bce322186", func := "poacher/poacherlaw10.DequeOrder", spec := "dequeOrder", unfollowed := true, recurses := true, apart := false, narrowed := true }
def DequeOrderUptoSaid : Prop := dequeOrderUptoRow.holds Try.pinned (OpenSpec.upto dequeOrderSpec)

/-- 'poacherlaw10.DequeFirst', WHERE WHAT IT READS IS OF BULK AT MOST 1048576: true; the input reads as it did. -/
def dequeFirstUptoRow : OpenClaim := { program := "ytppacheibhanbaa", sum := "855198b54b5ae18ae34d39c546cf2d9948c4297d779af3c3da8e898bce322186", func := "poacher/poacherlaw10.DequeFirst", spec := "dequeFirst", unfollowed := true, recurses := true, apart := false, narrowed := true }
def DequeFirstUptoSaid : Prop := dequeFirstUptoRow.holds Try.pinned (OpenSpec.upto dequeFirstSpec)

/-- 'poacherlaw10.DequeBoth', WHERE WHAT IT READS IS OF BULK AT MOST 1048576: true; the input reads as it did. -/
def dequeBothUptoRow : OpenClaim := { program := "ytppacheibhanbaa", sum := "855198b54b5ae18ae34d39c546cf2d9948c4297d779af3c3da8e898bce322186", func := "poacher/poacherlaw10.DequeBoth", spec := "dequeBoth", unfollowed := true, recurses := true, apart := false, narrowed := true }
def DequeBothUptoSaid : Prop := dequeBothUptoRow.holds Try.pinned (OpenSpec.upto dequeBothSpec)

/-- 'poacherlaw10.DequeWho', WHERE WHAT IT READS IS OF BULK AT MOST 1048576: true; the input reads as it did. -/
def dequeWhoUptoRow : OpenClaim := { program := "ytppacheibhanbaa", sum := "855198b54b5ae18ae34d39c546cf2d9948c4297d779af3c3da8e898bce322186", func := "poacher/poacherlaw10.DequeWho", spec := "dequeWho", unfollowed := true, recurses := true, apart := false, narrowed := true }
def DequeWhoUptoSaid : Prop := dequeWhoUptoRow.holds Try.pinned (OpenSpec.upto dequeWhoSpec)

/-- 'poacherlaw10.DequeOnce', WHERE WHAT IT READS IS OF BULK AT MOST 1048576: true; the input reads as it did. -/
def dequeOnceUptoRow : OpenClaim := { program := "ytppacheibhanbaa", sum := "855198b54b5ae18ae34d39c546cf2d9948c4297d779af3c3da8e898bce322186", func := "poacher/poacherlaw10.DequeOnce", spec := "dequeOnce", unfollowed := true, recurses := true, apart := false, narrowed := true }
def DequeOnceUptoSaid : Prop := dequeOnceUptoRow.holds Try.pinned (OpenSpec.upto dequeOnceSpec)

/-- 'poacherlaw10.DequeRoom', WHERE WHAT IT READS IS OF BULK AT MOST 1048576: true; the input reads as it did. -/
def dequeRoomUptoRow : OpenClaim := { program := "ytppacheibhanbaa", sum := "855198b54b5ae18ae34d39c546cf2d9948c4297d779af3c3da8e898bce322186", func := "poacher/poacherlaw10.DequeRoom", spec := "dequeRoom", unfollowed := true, recurses := true, apart := false, narrowed := true }
def DequeRoomUptoSaid : Prop := dequeRoomUptoRow.holds Try.pinned (OpenSpec.upto dequeRoomSpec)

end Rows
end Go.Proofs.Ytppacheibhanbaa
