/-
  No cell of these rows narrows 'for every input' (looked for: loops, veiled, ifaces, maps, wideKeys, modest, calm, conditions, laid).
  DERIVED. THE GIVEN ROWS OF THIS SEAT. 13 by the template 'for every input the law returns true; each argument reads behind the call as it read before'; 0 by the template 'total and deterministic' (their statements: YtbhmjfccbidpeaaTotals.lean).
  GIVEN WITH THE SEED: the statements are not yours to turn. If you find one false, say at which input.
  Laid BY PROGRAM, IN A SANDBOX (cutbox-rows.mjs): the forced cells as the released guide's own fill.sh prints them over the translation deb315e52ec629e8… (all of the seat's roots in one cut). By AI agents, Wed Nov 11 2026. No macro, syntax, notation, axiom, sorry.
-/
import Derived.Test.YtbhmjfccbidpeaaChecked
import GoSem.Claim
import GoSem.ClaimJoined
import GoSem.ClaimMapViews
import Derived.JoinedTies
import Derived.KernelRfl
namespace Go.Proofs.Ytbhmjfccbidpeaa
/- THE CELL 'sum', in the pinned program and in every row, IS THE sha256 OF THE DUMP (.gsa) THAT YtbhmjfccbidpeaaProg.lean LOADS. Nothing in Lean hashes anything: it is a label: what it is worth is what the hold of that sum in a sandbox is worth. -/
noncomputable def Try.pinned : Pinned := { name := "ytbhmjfccbidpeaa", sum := "deb315e52ec629e8d82c3f5929cde018f4709fc258937a70a49346bc5d8eb41c", checked := Try.checked }
namespace Rows
def none {H : Type} : Left H := { results := [], args := [] }

/-- 'poacherlaw12.DeqTells': WHATEVER THE INPUT: true; the input reads as it did. -/
def deqTellsSpec : ChangeSpec := { name := "deqTells", fn := fun _ => fun
  | [d1, d2, d3] => { results := [.lit (.bool true)], args := [d1, d2, d3] }
  | _ => none }
def deqTellsRow : OpenClaim := { program := "ytbhmjfccbidpeaa", sum := "deb315e52ec629e8d82c3f5929cde018f4709fc258937a70a49346bc5d8eb41c", func := "poacher/poacherlaw12.DeqTells", spec := "deqTells", unfollowed := true, recurses := true, apart := false }
def DeqTellsSaid : Prop := deqTellsRow.holds Try.pinned (OpenSpec.ofChange deqTellsSpec)

/-- ITS FALSE NEIGHBOUR: 'it returns false'. Refute it at one input. -/
def deqTellsWrong : ChangeSpec := { name := "deqTells", fn := fun _ => fun
  | [d1, d2, d3] => { results := [.lit (.bool false)], args := [d1, d2, d3] }
  | _ => none }
def DeqTellsWrongFalsely : Prop := deqTellsRow.holds Try.pinned (OpenSpec.ofChange deqTellsWrong)

/-- 'poacherlaw12.DeqCells': WHATEVER THE INPUT: true; the input reads as it did. -/
def deqCellsSpec : ChangeSpec := { name := "deqCells", fn := fun _ => fun
  | [d1, d2, d3] => { results := [.lit (.bool true)], args := [d1, d2, d3] }
  | _ => none }
def deqCellsRow : OpenClaim := { program := "ytbhmjfccbidpeaa", sum := "deb315e52ec629e8d82c3f5929cde018f4709fc258937a70a49346bc5d8eb41c", func := "poacher/poacherlaw12.DeqCells", spec := "deqCells", unfollowed := true, recurses := true, apart := false }
def DeqCellsSaid : Prop := deqCellsRow.holds Try.pinned (OpenSpec.ofChange deqCellsSpec)

/-- ITS FALSE NEIGHBOUR: 'it returns false'. Refute it at one input. -/
def deqCellsWrong : ChangeSpec := { name := "deqCells", fn := fun _ => fun
  | [d1, d2, d3] => { results := [.lit (.bool false)], args := [d1, d2, d3] }
  | _ => none }
def DeqCellsWrongFalsely : Prop := deqCellsRow.holds Try.pinned (OpenSpec.ofChange deqCellsWrong)

/-- 'poacherlaw12.DeqTwo': WHATEVER THE INPUT: true; the input reads as it did. -/
def deqTwoSpec : ChangeSpec := { name := "deqTwo", fn := fun _ => fun
  | [d1, d2] => { results := [.lit (.bool true)], args := [d1, d2] }
  | _ => none }
def deqTwoRow : OpenClaim := { program := "ytbhmjfccbidpeaa", sum := "deb315e52ec629e8d82c3f5929cde018f4709fc258937a70a49346bc5d8eb41c", func := "poacher/poacherlaw12.DeqTwo", spec := "deqTwo", unfollowed := true, recurses := true, apart := false }
def DeqTwoSaid : Prop := deqTwoRow.holds Try.pinned (OpenSpec.ofChange deqTwoSpec)

/-- ITS FALSE NEIGHBOUR: 'it returns false'. Refute it at one input. -/
def deqTwoWrong : ChangeSpec := { name := "deqTwo", fn := fun _ => fun
  | [d1, d2] => { results := [.lit (.bool false)], args := [d1, d2] }
  | _ => none }
def DeqTwoWrongFalsely : Prop := deqTwoRow.holds Try.pinned (OpenSpec.ofChange deqTwoWrong)

/-- 'poacherlaw12.DeqOrder': WHATEVER THE INPUT: true; the input reads as it did. -/
def deqOrderSpec : ChangeSpec := { name := "deqOrder", fn := fun _ => fun
  | [d1, d2] => { results := [.lit (.bool true)], args := [d1, d2] }
  | _ => none }
def deqOrderRow : OpenClaim := { program := "ytbhmjfccbidpeaa", sum := "deb315e52ec629e8d82c3f5929cde018f4709fc258937a70a49346bc5d8eb41c", func := "poacher/poacherlaw12.DeqOrder", spec := "deqOrder", unfollowed := true, recurses := true, apart := false }
def DeqOrderSaid : Prop := deqOrderRow.holds Try.pinned (OpenSpec.ofChange deqOrderSpec)

/-- ITS FALSE NEIGHBOUR: 'it returns false'. Refute it at one input. -/
def deqOrderWrong : ChangeSpec := { name := "deqOrder", fn := fun _ => fun
  | [d1, d2] => { results := [.lit (.bool false)], args := [d1, d2] }
  | _ => none }
def DeqOrderWrongFalsely : Prop := deqOrderRow.holds Try.pinned (OpenSpec.ofChange deqOrderWrong)

/-- 'poacherlaw12.DeqEarly': WHATEVER THE INPUT: true; the input reads as it did. -/
def deqEarlySpec : ChangeSpec := { name := "deqEarly", fn := fun _ => fun
  | [d1, d2] => { results := [.lit (.bool true)], args := [d1, d2] }
  | _ => none }
def deqEarlyRow : OpenClaim := { program := "ytbhmjfccbidpeaa", sum := "deb315e52ec629e8d82c3f5929cde018f4709fc258937a70a49346bc5d8eb41c", func := "poacher/poacherlaw12.DeqEarly", spec := "deqEarly", unfollowed := true, recurses := true, apart := false }
def DeqEarlySaid : Prop := deqEarlyRow.holds Try.pinned (OpenSpec.ofChange deqEarlySpec)

/-- ITS FALSE NEIGHBOUR: 'it returns false'. Refute it at one input. -/
def deqEarlyWrong : ChangeSpec := { name := "deqEarly", fn := fun _ => fun
  | [d1, d2] => { results := [.lit (.bool false)], args := [d1, d2] }
  | _ => none }
def DeqEarlyWrongFalsely : Prop := deqEarlyRow.holds Try.pinned (OpenSpec.ofChange deqEarlyWrong)

/-- 'poacherlaw12.DeqAlone': WHATEVER THE INPUT: true; the input reads as it did. -/
def deqAloneSpec : ChangeSpec := { name := "deqAlone", fn := fun _ => fun
  | [d1, d2, d3] => { results := [.lit (.bool true)], args := [d1, d2, d3] }
  | _ => none }
def deqAloneRow : OpenClaim := { program := "ytbhmjfccbidpeaa", sum := "deb315e52ec629e8d82c3f5929cde018f4709fc258937a70a49346bc5d8eb41c", func := "poacher/poacherlaw12.DeqAlone", spec := "deqAlone", unfollowed := true, recurses := true, apart := false }
def DeqAloneSaid : Prop := deqAloneRow.holds Try.pinned (OpenSpec.ofChange deqAloneSpec)

/-- ITS FALSE NEIGHBOUR: 'it returns false'. Refute it at one input. -/
def deqAloneWrong : ChangeSpec := { name := "deqAlone", fn := fun _ => fun
  | [d1, d2, d3] => { results := [.lit (.bool false)], args := [d1, d2, d3] }
  | _ => none }
def DeqAloneWrongFalsely : Prop := deqAloneRow.holds Try.pinned (OpenSpec.ofChange deqAloneWrong)

/-- 'poacherlaw13.InjectTells': WHATEVER THE INPUT: true; the input reads as it did. -/
def injectTellsSpec : ChangeSpec := { name := "injectTells", fn := fun _ => fun
  | [d1, d2, d3, d4, d5, d6] => { results := [.lit (.bool true)], args := [d1, d2, d3, d4, d5, d6] }
  | _ => none }
def injectTellsRow : OpenClaim := { program := "ytbhmjfccbidpeaa", sum := "deb315e52ec629e8d82c3f5929cde018f4709fc258937a70a49346bc5d8eb41c", func := "poacher/poacherlaw13.InjectTells", spec := "injectTells", unfollowed := true, recurses := true, apart := false }
def InjectTellsSaid : Prop := injectTellsRow.holds Try.pinned (OpenSpec.ofChange injectTellsSpec)

/-- ITS FALSE NEIGHBOUR: 'it returns false'. Refute it at one input. -/
def injectTellsWrong : ChangeSpec := { name := "injectTells", fn := fun _ => fun
  | [d1, d2, d3, d4, d5, d6] => { results := [.lit (.bool false)], args := [d1, d2, d3, d4, d5, d6] }
  | _ => none }
def InjectTellsWrongFalsely : Prop := injectTellsRow.holds Try.pinned (OpenSpec.ofChange injectTellsWrong)

/-- 'poacherlaw13.InjectOrder': WHATEVER THE INPUT: true; the input reads as it did. -/
def injectOrderSpec : ChangeSpec := { name := "injectOrder", fn := fun _ => fun
  | [d1, d2, d3, d4, d5] => { results := [.lit (.bool true)], args := [d1, d2, d3, d4, d5] }
  | _ => none }
def injectOrderRow : OpenClaim := { program := "ytbhmjfccbidpeaa", sum := "deb315e52ec629e8d82c3f5929cde018f4709fc258937a70a49346bc5d8eb41c", func := "poacher/poacherlaw13.InjectOrder", spec := "injectOrder", unfollowed := true, recurses := true, apart := false }
def InjectOrderSaid : Prop := injectOrderRow.holds Try.pinned (OpenSpec.ofChange injectOrderSpec)

/-- ITS FALSE NEIGHBOUR: 'it returns false'. Refute it at one input. -/
def injectOrderWrong : ChangeSpec := { name := "injectOrder", fn := fun _ => fun
  | [d1, d2, d3, d4, d5] => { results := [.lit (.bool false)], args := [d1, d2, d3, d4, d5] }
  | _ => none }
def InjectOrderWrongFalsely : Prop := injectOrderRow.holds Try.pinned (OpenSpec.ofChange injectOrderWrong)

/-- 'poacherlaw13.InjectFirst': WHATEVER THE INPUT: true; the input reads as it did. -/
def injectFirstSpec : ChangeSpec := { name := "injectFirst", fn := fun _ => fun
  | [d1, d2, d3, d4] => { results := [.lit (.bool true)], args := [d1, d2, d3, d4] }
  | _ => none }
def injectFirstRow : OpenClaim := { program := "ytbhmjfccbidpeaa", sum := "deb315e52ec629e8d82c3f5929cde018f4709fc258937a70a49346bc5d8eb41c", func := "poacher/poacherlaw13.InjectFirst", spec := "injectFirst", unfollowed := true, recurses := true, apart := false }
def InjectFirstSaid : Prop := injectFirstRow.holds Try.pinned (OpenSpec.ofChange injectFirstSpec)

/-- ITS FALSE NEIGHBOUR: 'it returns false'. Refute it at one input. -/
def injectFirstWrong : ChangeSpec := { name := "injectFirst", fn := fun _ => fun
  | [d1, d2, d3, d4] => { results := [.lit (.bool false)], args := [d1, d2, d3, d4] }
  | _ => none }
def InjectFirstWrongFalsely : Prop := injectFirstRow.holds Try.pinned (OpenSpec.ofChange injectFirstWrong)

/-- 'poacherlaw13.InjectRoom': WHATEVER THE INPUT: true; the input reads as it did. -/
def injectRoomSpec : ChangeSpec := { name := "injectRoom", fn := fun _ => fun
  | [d1, d2, d3] => { results := [.lit (.bool true)], args := [d1, d2, d3] }
  | _ => none }
def injectRoomRow : OpenClaim := { program := "ytbhmjfccbidpeaa", sum := "deb315e52ec629e8d82c3f5929cde018f4709fc258937a70a49346bc5d8eb41c", func := "poacher/poacherlaw13.InjectRoom", spec := "injectRoom", unfollowed := true, recurses := true, apart := false }
def InjectRoomSaid : Prop := injectRoomRow.holds Try.pinned (OpenSpec.ofChange injectRoomSpec)

/-- ITS FALSE NEIGHBOUR: 'it returns false'. Refute it at one input. -/
def injectRoomWrong : ChangeSpec := { name := "injectRoom", fn := fun _ => fun
  | [d1, d2, d3] => { results := [.lit (.bool false)], args := [d1, d2, d3] }
  | _ => none }
def InjectRoomWrongFalsely : Prop := injectRoomRow.holds Try.pinned (OpenSpec.ofChange injectRoomWrong)

/-- 'poacherlaw13.InjectWho': WHATEVER THE INPUT: true; the input reads as it did. -/
def injectWhoSpec : ChangeSpec := { name := "injectWho", fn := fun _ => fun
  | [d1, d2, d3, d4] => { results := [.lit (.bool true)], args := [d1, d2, d3, d4] }
  | _ => none }
def injectWhoRow : OpenClaim := { program := "ytbhmjfccbidpeaa", sum := "deb315e52ec629e8d82c3f5929cde018f4709fc258937a70a49346bc5d8eb41c", func := "poacher/poacherlaw13.InjectWho", spec := "injectWho", unfollowed := true, recurses := true, apart := false }
def InjectWhoSaid : Prop := injectWhoRow.holds Try.pinned (OpenSpec.ofChange injectWhoSpec)

/-- ITS FALSE NEIGHBOUR: 'it returns false'. Refute it at one input. -/
def injectWhoWrong : ChangeSpec := { name := "injectWho", fn := fun _ => fun
  | [d1, d2, d3, d4] => { results := [.lit (.bool false)], args := [d1, d2, d3, d4] }
  | _ => none }
def InjectWhoWrongFalsely : Prop := injectWhoRow.holds Try.pinned (OpenSpec.ofChange injectWhoWrong)

/-- 'poacherlaw13.InjectTurn': WHATEVER THE INPUT: true; the input reads as it did. -/
def injectTurnSpec : ChangeSpec := { name := "injectTurn", fn := fun _ => fun
  | [d1, d2] => { results := [.lit (.bool true)], args := [d1, d2] }
  | _ => none }
def injectTurnRow : OpenClaim := { program := "ytbhmjfccbidpeaa", sum := "deb315e52ec629e8d82c3f5929cde018f4709fc258937a70a49346bc5d8eb41c", func := "poacher/poacherlaw13.InjectTurn", spec := "injectTurn", unfollowed := true, recurses := true, apart := false }
def InjectTurnSaid : Prop := injectTurnRow.holds Try.pinned (OpenSpec.ofChange injectTurnSpec)

/-- ITS FALSE NEIGHBOUR: 'it returns false'. Refute it at one input. -/
def injectTurnWrong : ChangeSpec := { name := "injectTurn", fn := fun _ => fun
  | [d1, d2] => { results := [.lit (.bool false)], args := [d1, d2] }
  | _ => none }
def InjectTurnWrongFalsely : Prop := injectTurnRow.holds Try.pinned (OpenSpec.ofChange injectTurnWrong)

/-- 'poacherlaw13.InjectOnce': WHATEVER THE INPUT: true; the input reads as it did. -/
def injectOnceSpec : ChangeSpec := { name := "injectOnce", fn := fun _ => fun
  | [d1, d2, d3, d4, d5] => { results := [.lit (.bool true)], args := [d1, d2, d3, d4, d5] }
  | _ => none }
def injectOnceRow : OpenClaim := { program := "ytbhmjfccbidpeaa", sum := "deb315e52ec629e8d82c3f5929cde018f4709fc258937a70a49346bc5d8eb41c", func := "poacher/poacherlaw13.InjectOnce", spec := "injectOnce", unfollowed := true, recurses := true, apart := false }
def InjectOnceSaid : Prop := injectOnceRow.holds Try.pinned (OpenSpec.ofChange injectOnceSpec)

/-- ITS FALSE NEIGHBOUR: 'it returns false'. Refute it at one input. -/
def injectOnceWrong : ChangeSpec := { name := "injectOnce", fn := fun _ => fun
  | [d1, d2, d3, d4, d5] => { results := [.lit (.bool false)], args := [d1, d2, d3, d4, d5] }
  | _ => none }
def InjectOnceWrongFalsely : Prop := injectOnceRow.holds Try.pinned (OpenSpec.ofChange injectOnceWrong)

/- THE SECOND FORM. 'bulk': how many values and letters a reading holds, each counted each time it is reached (what is shared counts as often as it is met; a slice's spare places count too). A statement '..UptoSaid' is the law's where the arguments, and the package variables that the reading takes, are together of bulk at most 1048576: NARROWER than '..Said'. Prove '..Said' where nothing that the law and all that it calls make is longer than what came in: it says more and counts as full. Else prove '..UptoSaid'. A law counts once. -/
mutual
def uptoBulk {H : Type} : DataW H → Nat
  | .lit (.string bytes) => bytes.length + 1
  | .lit _ => 1
  | .nil => 1
  | .ptr d => uptoBulk d + 1
  | .slice elems spare => uptoBulkAll elems + uptoBulkAll spare + 1
  | .agg parts => uptoBulkAll parts + 1
  | .iface _ d => uptoBulk d + 1
  | .map entries => uptoBulkEntries entries + 1
  | .held _ => 1
def uptoBulkAll {H : Type} : List (DataW H) → Nat
  | [] => 0
  | d :: r => uptoBulk d + uptoBulkAll r
def uptoBulkEntries {H : Type} : List (Lit × DataW H) → Nat
  | [] => 0
  | x :: r => uptoBulkEntry x + uptoBulkEntries r
def uptoBulkEntry {H : Type} : Lit × DataW H → Nat
  | (.string bytes, d) => bytes.length + uptoBulk d + 1
  | (_, d) => uptoBulk d + 1
 end
def uptoSmall : (H : Type) → List (DataW H) → Bool := fun _ ds => decide (uptoBulkAll ds ≤ 1048576)
def OpenSpec.upto (s : _root_.Go.ChangeSpec) : _root_.Go.OpenSpec := { _root_.Go.OpenSpec.ofChange s with cond := some uptoSmall }

/-- 'poacherlaw12.DeqTells', WHERE WHAT IT READS IS OF BULK AT MOST 1048576: true; the input reads as it did. -/
def deqTellsUptoRow : OpenClaim := { program := "ytbhmjfccbidpeaa", sum := "deb315e52ec629e8d82c3f5929cde018f4709fc258937a70a49346bc5d8eb41c", func := "poacher/poacherlaw12.DeqTells", spec := "deqTells", unfollowed := true, recurses := true, apart := false, narrowed := true }
def DeqTellsUptoSaid : Prop := deqTellsUptoRow.holds Try.pinned (OpenSpec.upto deqTellsSpec)

/-- 'poacherlaw12.DeqCells', WHERE WHAT IT READS IS OF BULK AT MOST 1048576: true; the input reads as it did. -/
def deqCellsUptoRow : OpenClaim := { program := "ytbhmjfccbidpeaa", sum := "deb315e52ec629e8d82c3f5929cde018f4709fc258937a70a49346bc5d8eb41c", func := "poacher/poacherlaw12.DeqCells", spec := "deqCells", unfollowed := true, recurses := true, apart := false, narrowed := true }
def DeqCellsUptoSaid : Prop := deqCellsUptoRow.holds Try.pinned (OpenSpec.upto deqCellsSpec)

/-- 'poacherlaw12.DeqTwo', WHERE WHAT IT READS IS OF BULK AT MOST 1048576: true; the input reads as it did. -/
def deqTwoUptoRow : OpenClaim := { program := "ytbhmjfccbidpeaa", sum := "deb315e52ec629e8d82c3f5929cde018f4709fc258937a70a49346bc5d8eb41c", func := "poacher/poacherlaw12.DeqTwo", spec := "deqTwo", unfollowed := true, recurses := true, apart := false, narrowed := true }
def DeqTwoUptoSaid : Prop := deqTwoUptoRow.holds Try.pinned (OpenSpec.upto deqTwoSpec)

/-- 'poacherlaw12.DeqOrder', WHERE WHAT IT READS IS OF BULK AT MOST 1048576: true; the input reads as it did. -/
def deqOrderUptoRow : OpenClaim := { program := "ytbhmjfccbidpeaa", sum := "deb315e52ec629e8d82c3f5929cde018f4709fc258937a70a49346bc5d8eb41c", func := "poacher/poacherlaw12.DeqOrder", spec := "deqOrder", unfollowed := true, recurses := true, apart := false, narrowed := true }
def DeqOrderUptoSaid : Prop := deqOrderUptoRow.holds Try.pinned (OpenSpec.upto deqOrderSpec)

/-- 'poacherlaw12.DeqEarly', WHERE WHAT IT READS IS OF BULK AT MOST 1048576: true; the input reads as it did. -/
def deqEarlyUptoRow : OpenClaim := { program := "ytbhmjfccbidpeaa", sum := "deb315e52ec629e8d82c3f5929cde018f4709fc258937a70a49346bc5d8eb41c", func := "poacher/poacherlaw12.DeqEarly", spec := "deqEarly", unfollowed := true, recurses := true, apart := false, narrowed := true }
def DeqEarlyUptoSaid : Prop := deqEarlyUptoRow.holds Try.pinned (OpenSpec.upto deqEarlySpec)

/-- 'poacherlaw12.DeqAlone', WHERE WHAT IT READS IS OF BULK AT MOST 1048576: true; the input reads as it did. -/
def deqAloneUptoRow : OpenClaim := { program := "ytbhmjfccbidpeaa", sum := "deb315e52ec629e8d82c3f5929cde018f4709fc258937a70a49346bc5d8eb41c", func := "poacher/poacherlaw12.DeqAlone", spec := "deqAlone", unfollowed := true, recurses := true, apart := false, narrowed := true }
def DeqAloneUptoSaid : Prop := deqAloneUptoRow.holds Try.pinned (OpenSpec.upto deqAloneSpec)

/-- 'poacherlaw13.InjectTells', WHERE WHAT IT READS IS OF BULK AT MOST 1048576: true; the input reads as it did. -/
def injectTellsUptoRow : OpenClaim := { program := "ytbhmjfccbidpeaa", sum := "deb315e52ec629e8d82c3f5929cde018f4709fc258937a70a49346bc5d8eb41c", func := "poacher/poacherlaw13.InjectTells", spec := "injectTells", unfollowed := true, recurses := true, apart := false, narrowed := true }
def InjectTellsUptoSaid : Prop := injectTellsUptoRow.holds Try.pinned (OpenSpec.upto injectTellsSpec)

/-- 'poacherlaw13.InjectOrder', WHERE WHAT IT READS IS OF BULK AT MOST 1048576: true; the input reads as it did. -/
def injectOrderUptoRow : OpenClaim := { program := "ytbhmjfccbidpeaa", sum := "deb315e52ec629e8d82c3f5929cde018f4709fc258937a70a49346bc5d8eb41c", func := "poacher/poacherlaw13.InjectOrder", spec := "injectOrder", unfollowed := true, recurses := true, apart := false, narrowed := true }
def InjectOrderUptoSaid : Prop := injectOrderUptoRow.holds Try.pinned (OpenSpec.upto injectOrderSpec)

/-- 'poacherlaw13.InjectFirst', WHERE WHAT IT READS IS OF BULK AT MOST 1048576: true; the input reads as it did. -/
def injectFirstUptoRow : OpenClaim := { program := "ytbhmjfccbidpeaa", sum := "deb315e52ec629e8d82c3f5929cde018f4709fc258937a70a49346bc5d8eb41c", func := "poacher/poacherlaw13.InjectFirst", spec := "injectFirst", unfollowed := true, recurses := true, apart := false, narrowed := true }
def InjectFirstUptoSaid : Prop := injectFirstUptoRow.holds Try.pinned (OpenSpec.upto injectFirstSpec)

/-- 'poacherlaw13.InjectRoom', WHERE WHAT IT READS IS OF BULK AT MOST 1048576: true; the input reads as it did. -/
def injectRoomUptoRow : OpenClaim := { program := "ytbhmjfccbidpeaa", sum := "deb315e52ec629e8d82c3f5929cde018f4709fc258937a70a49346bc5d8eb41c", func := "poacher/poacherlaw13.InjectRoom", spec := "injectRoom", unfollowed := true, recurses := true, apart := false, narrowed := true }
def InjectRoomUptoSaid : Prop := injectRoomUptoRow.holds Try.pinned (OpenSpec.upto injectRoomSpec)

/-- 'poacherlaw13.InjectWho', WHERE WHAT IT READS IS OF BULK AT MOST 1048576: true; the input reads as it did. -/
def injectWhoUptoRow : OpenClaim := { program := "ytbhmjfccbidpeaa", sum := "deb315e52ec629e8d82c3f5929cde018f4709fc258937a70a49346bc5d8eb41c", func := "poacher/poacherlaw13.InjectWho", spec := "injectWho", unfollowed := true, recurses := true, apart := false, narrowed := true }
def InjectWhoUptoSaid : Prop := injectWhoUptoRow.holds Try.pinned (OpenSpec.upto injectWhoSpec)

/-- 'poacherlaw13.InjectTurn', WHERE WHAT IT READS IS OF BULK AT MOST 1048576: true; the input reads as it did. -/
def injectTurnUptoRow : OpenClaim := { program := "ytbhmjfccbidpeaa", sum := "deb315e52ec629e8d82c3f5929cde018f4709fc258937a70a49346bc5d8eb41c", func := "poacher/poacherlaw13.InjectTurn", spec := "injectTurn", unfollowed := true, recurses := true, apart := false, narrowed := true }
def InjectTurnUptoSaid : Prop := injectTurnUptoRow.holds Try.pinned (OpenSpec.upto injectTurnSpec)

/-- 'poacherlaw13.InjectOnce', WHERE WHAT IT READS IS OF BULK AT MOST 1048576: true; the input reads as it did. -/
def injectOnceUptoRow : OpenClaim := { program := "ytbhmjfccbidpeaa", sum := "deb315e52ec629e8d82c3f5929cde018f4709fc258937a70a49346bc5d8eb41c", func := "poacher/poacherlaw13.InjectOnce", spec := "injectOnce", unfollowed := true, recurses := true, apart := false, narrowed := true }
def InjectOnceUptoSaid : Prop := injectOnceUptoRow.holds Try.pinned (OpenSpec.upto injectOnceSpec)

end Rows
end Go.Proofs.Ytbhmjfccbidpeaa
