/-
  No cell of these rows narrows 'for every input' (looked for: loops, veiled, ifaces, maps, wideKeys, modest, calm, conditions, laid).
  DERIVED. THE GIVEN ROWS OF THIS SEAT. 3 by the template 'for every input the law returns true; each argument reads behind the call as it read before'; 0 by the template 'total and deterministic' (their statements: YtfbpdlondinjaaaGreatTotals.lean).
  GIVEN WITH THE SEED: the statements are not yours to turn. If you find one false, say at which input.
  Laid BY PROGRAM, IN A SANDBOX (cutbox-rows.mjs): the forced cells as the released guide's own fill.sh prints them over the translation a50ec1b2c741a9be… (all of the seat's roots in one cut). By AI agents, Wed Nov 11 2026. No macro, syntax, notation, axiom, sorry.
-/
import Derived.Test.YtfbpdlondinjaaaGreatChecked
import GoSem.Claim
import GoSem.ClaimJoined
import GoSem.ClaimMapViews
import Derived.JoinedTies
import Derived.KernelRfl
namespace Go.Proofs.YtfbpdlondinjaaaGreat
/- THE CELL 'sum', in the pinned program and in every row, IS THE sha256 OF THE DUMP (.gsa) THAT YtfbpdlondinjaaaGreatProg.lean LOADS. Nothing in Lean hashes anything: it is a label: what it is worth is what the hold of that sum in a sandbox is worth. -/
noncomputable def Tryz.pinned : Pinned := { name := "ytfbpdlondinjaaagreat", sum := "a50ec1b2c741a9be93c6b4af447b08bf68a6eca8b7a61bdf4c23e88f0a8438e0", checked := Tryz.checked }
namespace Rows
def none {H : Type} : Left H := { results := [], args := [] }

/-- 'poachertop.TopSearch': WHATEVER THE INPUT: true; the input reads as it did. -/
def topSearchSpec : ChangeSpec := { name := "topSearch", fn := fun _ => fun
  | [d1, d2, d3, d4, d5] => { results := [.lit (.bool true)], args := [d1, d2, d3, d4, d5] }
  | _ => none }
def topSearchRow : OpenClaim := { program := "ytfbpdlondinjaaagreat", sum := "a50ec1b2c741a9be93c6b4af447b08bf68a6eca8b7a61bdf4c23e88f0a8438e0", func := "poacher/poachertop.TopSearch", spec := "topSearch", unfollowed := true, recurses := true, apart := false }
def TopSearchSaid : Prop := topSearchRow.holds Tryz.pinned (OpenSpec.ofChange topSearchSpec)

/-- ITS FALSE NEIGHBOUR: 'it returns false'. Refute it at one input. -/
def topSearchWrong : ChangeSpec := { name := "topSearch", fn := fun _ => fun
  | [d1, d2, d3, d4, d5] => { results := [.lit (.bool false)], args := [d1, d2, d3, d4, d5] }
  | _ => none }
def TopSearchWrongFalsely : Prop := topSearchRow.holds Tryz.pinned (OpenSpec.ofChange topSearchWrong)

/-- 'poachertop.TopAwake': WHATEVER THE INPUT: true; the input reads as it did. -/
def topAwakeSpec : ChangeSpec := { name := "topAwake", fn := fun _ => fun
  | [d1, d2, d3, d4] => { results := [.lit (.bool true)], args := [d1, d2, d3, d4] }
  | _ => none }
def topAwakeRow : OpenClaim := { program := "ytfbpdlondinjaaagreat", sum := "a50ec1b2c741a9be93c6b4af447b08bf68a6eca8b7a61bdf4c23e88f0a8438e0", func := "poacher/poachertop.TopAwake", spec := "topAwake", unfollowed := true, recurses := true, apart := false }
def TopAwakeSaid : Prop := topAwakeRow.holds Tryz.pinned (OpenSpec.ofChange topAwakeSpec)

/-- ITS FALSE NEIGHBOUR: 'it returns false'. Refute it at one input. -/
def topAwakeWrong : ChangeSpec := { name := "topAwake", fn := fun _ => fun
  | [d1, d2, d3, d4] => { results := [.lit (.bool false)], args := [d1, d2, d3, d4] }
  | _ => none }
def TopAwakeWrongFalsely : Prop := topAwakeRow.holds Tryz.pinned (OpenSpec.ofChange topAwakeWrong)

/-- 'poachertop.TopInline': WHATEVER THE INPUT: true; the input reads as it did. -/
def topInlineSpec : ChangeSpec := { name := "topInline", fn := fun _ => fun
  | [d1, d2, d3, d4] => { results := [.lit (.bool true)], args := [d1, d2, d3, d4] }
  | _ => none }
def topInlineRow : OpenClaim := { program := "ytfbpdlondinjaaagreat", sum := "a50ec1b2c741a9be93c6b4af447b08bf68a6eca8b7a61bdf4c23e88f0a8438e0", func := "poacher/poachertop.TopInline", spec := "topInline", unfollowed := true, recurses := true, apart := false }
def TopInlineSaid : Prop := topInlineRow.holds Tryz.pinned (OpenSpec.ofChange topInlineSpec)

/-- ITS FALSE NEIGHBOUR: 'it returns false'. Refute it at one input. -/
def topInlineWrong : ChangeSpec := { name := "topInline", fn := fun _ => fun
  | [d1, d2, d3, d4] => { results := [.lit (.bool false)], args := [d1, d2, d3, d4] }
  | _ => none }
def TopInlineWrongFalsely : Prop := topInlineRow.holds Tryz.pinned (OpenSpec.ofChange topInlineWrong)

/- THE SECOND FORM. 'bulk': how many values and letters a reading holds, each counted each time it is reached (what is shared counts as often as it is met; a slice's spare places count too). A statement '..UptoSaid' is the law's where the arguments, and the package variables that the reading takes, are together of bulk at most 1048576: NARROWER than '..Said'. Prove '..Said' where nothing that the law and all that it calls make is longer than what came in: it says more and counts as full. Else prove '..UptoSaid'. A law counts once. -/
mutual
def uptoBulk {H : Type} : DataW H → Nat
  | .lit (.string bytes) => bytes.length + 1
  | .lit _ => 1
  | .nil => 1
  | .ptr d => uptoBulk d + 1
  | .slice elems spare => uptoBulkAll elems + uptoBulkAll spare + 1
  | .agg parts => uptoBulkAll parts + 1
  | .iface _ d => uptoBulk d + 1
  | .map entries => uptoBulkEntries entries + 1
  | .held _ => 1
def uptoBulkAll {H : Type} : List (DataW H) → Nat
  | [] => 0
  | d :: r => uptoBulk d + uptoBulkAll r
def uptoBulkEntries {H : Type} : List (Lit × DataW H) → Nat
  | [] => 0
  | x :: r => uptoBulkEntry x + uptoBulkEntries r
def uptoBulkEntry {H : Type} : Lit × DataW H → Nat
  | (.string bytes, d) => bytes.length + uptoBulk d + 1
  | (_, d) => uptoBulk d + 1
 end
def uptoSmall : (H : Type) → List (DataW H) → Bool := fun _ ds => decide (uptoBulkAll ds ≤ 1048576)
def OpenSpec.upto (s : _root_.Go.ChangeSpec) : _root_.Go.OpenSpec := { _root_.Go.OpenSpec.ofChange s with cond := some uptoSmall }

/-- 'poachertop.TopSearch', WHERE WHAT IT READS IS OF BULK AT MOST 1048576: true; the input reads as it did. -/
def topSearchUptoRow : OpenClaim := { program := "ytfbpdlondinjaaagreat", sum := "a50ec1b2c741a9be93c6b4af447b08bf68a6eca8b7a61bdf4c23e88f0a8438e0", func := "poacher/poachertop.TopSearch", spec := "topSearch", unfollowed := true, recurses := true, apart := false, narrowed := true }
def TopSearchUptoSaid : Prop := topSearchUptoRow.holds Tryz.pinned (OpenSpec.upto topSearchSpec)

/-- 'poachertop.TopAwake', WHERE WHAT IT READS IS OF BULK AT MOST 1048576: true; the input reads as it did. -/
def topAwakeUptoRow : OpenClaim := { program := "ytfbpdlondinjaaagreat", sum := "a50ec1b2c741a9be93c6b4af447b08bf68a6eca8b7a61bdf4c23e88f0a8438e0", func := "poacher/poachertop.TopAwake", spec := "topAwake", unfollowed := true, recurses := true, apart := false, narrowed := true }
def TopAwakeUptoSaid : Prop := topAwakeUptoRow.holds Tryz.pinned (OpenSpec.upto topAwakeSpec)

/-- 'poachertop.TopInline', WHERE WHAT IT READS IS OF BULK AT MOST 1048576: true; the input reads as it did. -/
def topInlineUptoRow : OpenClaim := { program := "ytfbpdlondinjaaagreat", sum := "a50ec1b2c741a9be93c6b4af447b08bf68a6eca8b7a61bdf4c23e88f0a8438e0", func := "poacher/poachertop.TopInline", spec := "topInline", unfollowed := true, recurses := true, apart := false, narrowed := true }
def TopInlineUptoSaid : Prop := topInlineUptoRow.holds Tryz.pinned (OpenSpec.upto topInlineSpec)

end Rows
end Go.Proofs.YtfbpdlondinjaaaGreat
