/-
  NARROWER THAN 'FOR EVERY INPUT', by the rows' own cells (each row's printed sentence says how): IndexFrees: laid · IndexNoSpace: laid · IndexPlays: laid · IndexDrops: laid · IndexApart: laid · IndexTable: laid.
  DERIVED. THE GIVEN ROWS OF THIS SEAT. 6 by the template 'for every input the law returns true; each argument reads behind the call as it read before'; 0 by the template 'total and deterministic' (their statements: YtdcppkhobfbpeaaDoorTotals.lean).
  GIVEN WITH THE SEED: the statements are not yours to turn. If you find one false, say at which input.
  Laid BY PROGRAM, IN A SANDBOX (cutbox-rows.mjs): the forced cells as the released guide's own fill.sh prints them over the translation 68cc77bd948777c5… (all of the seat's roots in one cut). By AI agents, Wed Nov 11 2026. No macro, syntax, notation, axiom, sorry.
-/
import Derived.Test.YtdcppkhobfbpeaaDoorChecked
import GoSem.Claim
import GoSem.ClaimJoined
import GoSem.ClaimMapViews
import Derived.JoinedTies
import Derived.KernelRfl
namespace Go.Proofs.YtdcppkhobfbpeaaDoor
/- THE CELL 'sum', in the pinned program and in every row, IS THE sha256 OF THE DUMP (.gsa) THAT YtdcppkhobfbpeaaDoorProg.lean LOADS. Nothing in Lean hashes anything: it is a label: what it is worth is what the hold of that sum in a sandbox is worth. -/
noncomputable def Tryd.pinned : Pinned := { name := "ytdcppkhobfbpeaadoor", sum := "68cc77bd948777c516c680451e8f0a7b343f4d4dac468279948d67d855f7ac64", checked := Tryd.checked }
namespace Rows
def none {H : Type} : Left H := { results := [], args := [] }

/- WHAT THE LISTED PACKAGE-LEVEL VARIABLES READ AS WHEN THE CALL BEGINS. Each datum BY PROGRAM (the guide's laid-datum.mjs) off the statement by which the dump's own 'gosem.cut.vars' lays the variable. In a bare row this is a premise. The card (YtdcppkhobfbpeaaDoorCards.lean) ties it to the program's text. -/
def laid_lockfast_class_blocks {H : Type} : DataW H := .agg [.lit (.int .i64 4), .lit (.int .i64 8), .lit (.int .i64 16)]

/-- 'lockfastlaw17.IndexFrees': WHATEVER THE INPUT: true; the input reads as it did. -/
def indexFreesSpec : ChangeSpec := { name := "indexFrees", fn := fun _ => fun
  | [d1, d2] => { results := [.lit (.bool true)], args := [d1, d2] }
  | _ => none }
def indexFreesRow : OpenClaim := { program := "ytdcppkhobfbpeaadoor", sum := "68cc77bd948777c516c680451e8f0a7b343f4d4dac468279948d67d855f7ac64", func := "lockfast/lockfastlaw17.IndexFrees", spec := "indexFrees", unfollowed := true, recurses := true, named := ["lockfast/class.blocks"], apart := false, laid := [("lockfast/class.blocks", laid_lockfast_class_blocks)] }
def IndexFreesSaid : Prop := indexFreesRow.holds Tryd.pinned (OpenSpec.ofChange indexFreesSpec)

/-- ITS FALSE NEIGHBOUR: 'it returns false'. Refute it at one input. -/
def indexFreesWrong : ChangeSpec := { name := "indexFrees", fn := fun _ => fun
  | [d1, d2] => { results := [.lit (.bool false)], args := [d1, d2] }
  | _ => none }
def IndexFreesWrongFalsely : Prop := indexFreesRow.holds Tryd.pinned (OpenSpec.ofChange indexFreesWrong)

/-- 'lockfastlaw17.IndexNoSpace': WHATEVER THE INPUT: true; the input reads as it did. -/
def indexNoSpaceSpec : ChangeSpec := { name := "indexNoSpace", fn := fun _ => fun
  | [d1, d2] => { results := [.lit (.bool true)], args := [d1, d2] }
  | _ => none }
def indexNoSpaceRow : OpenClaim := { program := "ytdcppkhobfbpeaadoor", sum := "68cc77bd948777c516c680451e8f0a7b343f4d4dac468279948d67d855f7ac64", func := "lockfast/lockfastlaw17.IndexNoSpace", spec := "indexNoSpace", unfollowed := true, recurses := true, named := ["lockfast/class.blocks"], apart := false, laid := [("lockfast/class.blocks", laid_lockfast_class_blocks)] }
def IndexNoSpaceSaid : Prop := indexNoSpaceRow.holds Tryd.pinned (OpenSpec.ofChange indexNoSpaceSpec)

/-- ITS FALSE NEIGHBOUR: 'it returns false'. Refute it at one input. -/
def indexNoSpaceWrong : ChangeSpec := { name := "indexNoSpace", fn := fun _ => fun
  | [d1, d2] => { results := [.lit (.bool false)], args := [d1, d2] }
  | _ => none }
def IndexNoSpaceWrongFalsely : Prop := indexNoSpaceRow.holds Tryd.pinned (OpenSpec.ofChange indexNoSpaceWrong)

/-- 'lockfastlaw17.IndexPlays': WHATEVER THE INPUT: true; the input reads as it did. -/
def indexPlaysSpec : ChangeSpec := { name := "indexPlays", fn := fun _ => fun
  | [d1, d2] => { results := [.lit (.bool true)], args := [d1, d2] }
  | _ => none }
def indexPlaysRow : OpenClaim := { program := "ytdcppkhobfbpeaadoor", sum := "68cc77bd948777c516c680451e8f0a7b343f4d4dac468279948d67d855f7ac64", func := "lockfast/lockfastlaw17.IndexPlays", spec := "indexPlays", unfollowed := true, recurses := true, named := ["lockfast/class.blocks"], apart := false, laid := [("lockfast/class.blocks", laid_lockfast_class_blocks)] }
def IndexPlaysSaid : Prop := indexPlaysRow.holds Tryd.pinned (OpenSpec.ofChange indexPlaysSpec)

/-- ITS FALSE NEIGHBOUR: 'it returns false'. Refute it at one input. -/
def indexPlaysWrong : ChangeSpec := { name := "indexPlays", fn := fun _ => fun
  | [d1, d2] => { results := [.lit (.bool false)], args := [d1, d2] }
  | _ => none }
def IndexPlaysWrongFalsely : Prop := indexPlaysRow.holds Tryd.pinned (OpenSpec.ofChange indexPlaysWrong)

/-- 'lockfastlaw17.IndexDrops': WHATEVER THE INPUT: true; the input reads as it did. -/
def indexDropsSpec : ChangeSpec := { name := "indexDrops", fn := fun _ => fun
  | [d1, d2, d3] => { results := [.lit (.bool true)], args := [d1, d2, d3] }
  | _ => none }
def indexDropsRow : OpenClaim := { program := "ytdcppkhobfbpeaadoor", sum := "68cc77bd948777c516c680451e8f0a7b343f4d4dac468279948d67d855f7ac64", func := "lockfast/lockfastlaw17.IndexDrops", spec := "indexDrops", unfollowed := true, recurses := true, named := ["lockfast/class.blocks"], apart := false, laid := [("lockfast/class.blocks", laid_lockfast_class_blocks)] }
def IndexDropsSaid : Prop := indexDropsRow.holds Tryd.pinned (OpenSpec.ofChange indexDropsSpec)

/-- ITS FALSE NEIGHBOUR: 'it returns false'. Refute it at one input. -/
def indexDropsWrong : ChangeSpec := { name := "indexDrops", fn := fun _ => fun
  | [d1, d2, d3] => { results := [.lit (.bool false)], args := [d1, d2, d3] }
  | _ => none }
def IndexDropsWrongFalsely : Prop := indexDropsRow.holds Tryd.pinned (OpenSpec.ofChange indexDropsWrong)

/-- 'lockfastlaw17.IndexApart': WHATEVER THE INPUT: true; the input reads as it did. -/
def indexApartSpec : ChangeSpec := { name := "indexApart", fn := fun _ => fun
  | [d1, d2] => { results := [.lit (.bool true)], args := [d1, d2] }
  | _ => none }
def indexApartRow : OpenClaim := { program := "ytdcppkhobfbpeaadoor", sum := "68cc77bd948777c516c680451e8f0a7b343f4d4dac468279948d67d855f7ac64", func := "lockfast/lockfastlaw17.IndexApart", spec := "indexApart", unfollowed := true, recurses := true, named := ["lockfast/class.blocks"], apart := false, laid := [("lockfast/class.blocks", laid_lockfast_class_blocks)] }
def IndexApartSaid : Prop := indexApartRow.holds Tryd.pinned (OpenSpec.ofChange indexApartSpec)

/-- ITS FALSE NEIGHBOUR: 'it returns false'. Refute it at one input. -/
def indexApartWrong : ChangeSpec := { name := "indexApart", fn := fun _ => fun
  | [d1, d2] => { results := [.lit (.bool false)], args := [d1, d2] }
  | _ => none }
def IndexApartWrongFalsely : Prop := indexApartRow.holds Tryd.pinned (OpenSpec.ofChange indexApartWrong)

/-- 'lockfastlaw17.IndexTable': WHATEVER THE INPUT: true; the input reads as it did. -/
def indexTableSpec : ChangeSpec := { name := "indexTable", fn := fun _ => fun
  | [d] => { results := [.lit (.bool true)], args := [d] }
  | _ => none }
def indexTableRow : OpenClaim := { program := "ytdcppkhobfbpeaadoor", sum := "68cc77bd948777c516c680451e8f0a7b343f4d4dac468279948d67d855f7ac64", func := "lockfast/lockfastlaw17.IndexTable", spec := "indexTable", unfollowed := true, recurses := true, named := ["lockfast/class.blocks"], apart := false, laid := [("lockfast/class.blocks", laid_lockfast_class_blocks)] }
def IndexTableSaid : Prop := indexTableRow.holds Tryd.pinned (OpenSpec.ofChange indexTableSpec)

/-- ITS FALSE NEIGHBOUR: 'it returns false'. Refute it at one input. -/
def indexTableWrong : ChangeSpec := { name := "indexTable", fn := fun _ => fun
  | [d] => { results := [.lit (.bool false)], args := [d] }
  | _ => none }
def IndexTableWrongFalsely : Prop := indexTableRow.holds Tryd.pinned (OpenSpec.ofChange indexTableWrong)

/- THE SECOND FORM. 'bulk': how many values and letters a reading holds, each counted each time it is reached (what is shared counts as often as it is met; a slice's spare places count too). A statement '..UptoSaid' is the law's where the arguments, and the package variables that the reading takes, are together of bulk at most 1048576: NARROWER than '..Said'. Prove '..Said' where nothing that the law and all that it calls make is longer than what came in: it says more and counts as full. Else prove '..UptoSaid'. A law counts once. -/
mutual
def uptoBulk {H : Type} : DataW H → Nat
  | .lit (.string bytes) => bytes.length + 1
  | .lit _ => 1
  | .nil => 1
  | .ptr d => uptoBulk d + 1
  | .slice elems spare => uptoBulkAll elems + uptoBulkAll spare + 1
  | .agg parts => uptoBulkAll parts + 1
  | .iface _ d => uptoBulk d + 1
  | .map entries => uptoBulkEntries entries + 1
  | .held _ => 1
def uptoBulkAll {H : Type} : List (DataW H) → Nat
  | [] => 0
  | d :: r => uptoBulk d + uptoBulkAll r
def uptoBulkEntries {H : Type} : List (Lit × DataW H) → Nat
  | [] => 0
  | x :: r => uptoBulkEntry x + uptoBulkEntries r
def uptoBulkEntry {H : Type} : Lit × DataW H → Nat
  | (.string bytes, d) => bytes.length + uptoBulk d + 1
  | (_, d) => uptoBulk d + 1
 end
def uptoSmall : (H : Type) → List (DataW H) → Bool := fun _ ds => decide (uptoBulkAll ds ≤ 1048576)
def OpenSpec.upto (s : _root_.Go.ChangeSpec) : _root_.Go.OpenSpec := { _root_.Go.OpenSpec.ofChange s with cond := some uptoSmall }

/-- 'lockfastlaw17.IndexFrees', WHERE WHAT IT READS IS OF BULK AT MOST 1048576: true; the input reads as it did. -/
def indexFreesUptoRow : OpenClaim := { program := "ytdcppkhobfbpeaadoor", sum := "68cc77bd948777c516c680451e8f0a7b343f4d4dac468279948d67d855f7ac64", func := "lockfast/lockfastlaw17.IndexFrees", spec := "indexFrees", unfollowed := true, recurses := true, named := ["lockfast/class.blocks"], apart := false, laid := [("lockfast/class.blocks", laid_lockfast_class_blocks)], narrowed := true }
def IndexFreesUptoSaid : Prop := indexFreesUptoRow.holds Tryd.pinned (OpenSpec.upto indexFreesSpec)

/-- 'lockfastlaw17.IndexNoSpace', WHERE WHAT IT READS IS OF BULK AT MOST 1048576: true; the input reads as it did. -/
def indexNoSpaceUptoRow : OpenClaim := { program := "ytdcppkhobfbpeaadoor", sum := "68cc77bd948777c516c680451e8f0a7b343f4d4dac468279948d67d855f7ac64", func := "lockfast/lockfastlaw17.IndexNoSpace", spec := "indexNoSpace", unfollowed := true, recurses := true, named := ["lockfast/class.blocks"], apart := false, laid := [("lockfast/class.blocks", laid_lockfast_class_blocks)], narrowed := true }
def IndexNoSpaceUptoSaid : Prop := indexNoSpaceUptoRow.holds Tryd.pinned (OpenSpec.upto indexNoSpaceSpec)

/-- 'lockfastlaw17.IndexPlays', WHERE WHAT IT READS IS OF BULK AT MOST 1048576: true; the input reads as it did. -/
def indexPlaysUptoRow : OpenClaim := { program := "ytdcppkhobfbpeaadoor", sum := "68cc77bd948777c516c680451e8f0a7b343f4d4dac468279948d67d855f7ac64", func := "lockfast/lockfastlaw17.IndexPlays", spec := "indexPlays", unfollowed := true, recurses := true, named := ["lockfast/class.blocks"], apart := false, laid := [("lockfast/class.blocks", laid_lockfast_class_blocks)], narrowed := true }
def IndexPlaysUptoSaid : Prop := indexPlaysUptoRow.holds Tryd.pinned (OpenSpec.upto indexPlaysSpec)

/-- 'lockfastlaw17.IndexDrops', WHERE WHAT IT READS IS OF BULK AT MOST 1048576: true; the input reads as it did. -/
def indexDropsUptoRow : OpenClaim := { program := "ytdcppkhobfbpeaadoor", sum := "68cc77bd948777c516c680451e8f0a7b343f4d4dac468279948d67d855f7ac64", func := "lockfast/lockfastlaw17.IndexDrops", spec := "indexDrops", unfollowed := true, recurses := true, named := ["lockfast/class.blocks"], apart := false, laid := [("lockfast/class.blocks", laid_lockfast_class_blocks)], narrowed := true }
def IndexDropsUptoSaid : Prop := indexDropsUptoRow.holds Tryd.pinned (OpenSpec.upto indexDropsSpec)

/-- 'lockfastlaw17.IndexApart', WHERE WHAT IT READS IS OF BULK AT MOST 1048576: true; the input reads as it did. -/
def indexApartUptoRow : OpenClaim := { program := "ytdcppkhobfbpeaadoor", sum := "68cc77bd948777c516c680451e8f0a7b343f4d4dac468279948d67d855f7ac64", func := "lockfast/lockfastlaw17.IndexApart", spec := "indexApart", unfollowed := true, recurses := true, named := ["lockfast/class.blocks"], apart := false, laid := [("lockfast/class.blocks", laid_lockfast_class_blocks)], narrowed := true }
def IndexApartUptoSaid : Prop := indexApartUptoRow.holds Tryd.pinned (OpenSpec.upto indexApartSpec)

/-- 'lockfastlaw17.IndexTable', WHERE WHAT IT READS IS OF BULK AT MOST 1048576: true; the input reads as it did. -/
def indexTableUptoRow : OpenClaim := { program := "ytdcppkhobfbpeaadoor", sum := "68cc77bd948777c516c680451e8f0a7b343f4d4dac468279948d67d855f7ac64", func := "lockfast/lockfastlaw17.IndexTable", spec := "indexTable", unfollowed := true, recurses := true, named := ["lockfast/class.blocks"], apart := false, laid := [("lockfast/class.blocks", laid_lockfast_class_blocks)], narrowed := true }
def IndexTableUptoSaid : Prop := indexTableUptoRow.holds Tryd.pinned (OpenSpec.upto indexTableSpec)

end Rows
end Go.Proofs.YtdcppkhobfbpeaaDoor
