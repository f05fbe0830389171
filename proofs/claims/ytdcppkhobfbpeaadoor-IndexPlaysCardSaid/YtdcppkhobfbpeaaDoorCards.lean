/-
  DERIVED. GIVEN WITH THE SEED: THE CARDS: each row of YtdcppkhobfbpeaaDoorRows.lean that lists a variable, with what it lists TIED to the program's text (the seventh form; the later family's looks); each row that meets fmt, with fmt's text TOLD by the authors' own Lean function (tested against real Go, not proved from fmt's source: count such statements apart). THE CARD IS WHAT COUNTS. Prove the row's statement (the work); the ties are given (YtdcppkhobfbpeaaDoorTie.lean); close each card by the builder's one call (the guide's Derived/Test/ToyasCard.lean, 'card_holds'). Laid BY PROGRAM, IN A SANDBOX (cutbox-door.mjs). By AI agents, Wed Nov 11 2026. No macro, syntax, notation, axiom, sorry.
-/
import Derived.Test.YtdcppkhobfbpeaaDoorRows
import GoSem.ClaimSeven
namespace Go.Proofs.YtdcppkhobfbpeaaDoor
namespace Rows

/-- THE TIED CARD OF 'lockfastlaw17.IndexFrees'. -/
def indexFreesCard : Claim7 := { stood := { row := indexFreesRow, standIns := [], harness := (true, "fa422b530b9b99d5ab7594e9000044a66d24c5edbf7783b1e8189e338bc08af1"), looks := false }, kinds := [], alts := [], laidByText := true, laidKinds := [.data], laidTests := true, laidLooks := .later }
def IndexFreesCardSaid : Prop := Claim7.holds Tryd.pinned (.plain (OpenSpec.ofChange indexFreesSpec)) indexFreesCard

/-- THE TIED CARD OF 'lockfastlaw17.IndexNoSpace'. -/
def indexNoSpaceCard : Claim7 := { stood := { row := indexNoSpaceRow, standIns := [], harness := (true, "fa422b530b9b99d5ab7594e9000044a66d24c5edbf7783b1e8189e338bc08af1"), looks := false }, kinds := [], alts := [], laidByText := true, laidKinds := [.data], laidTests := true, laidLooks := .later }
def IndexNoSpaceCardSaid : Prop := Claim7.holds Tryd.pinned (.plain (OpenSpec.ofChange indexNoSpaceSpec)) indexNoSpaceCard

/-- THE TIED CARD OF 'lockfastlaw17.IndexPlays'. -/
def indexPlaysCard : Claim7 := { stood := { row := indexPlaysRow, standIns := [], harness := (true, "fa422b530b9b99d5ab7594e9000044a66d24c5edbf7783b1e8189e338bc08af1"), looks := false }, kinds := [], alts := [], laidByText := true, laidKinds := [.data], laidTests := true, laidLooks := .later }
def IndexPlaysCardSaid : Prop := Claim7.holds Tryd.pinned (.plain (OpenSpec.ofChange indexPlaysSpec)) indexPlaysCard

/-- THE TIED CARD OF 'lockfastlaw17.IndexDrops'. -/
def indexDropsCard : Claim7 := { stood := { row := indexDropsRow, standIns := [], harness := (true, "fa422b530b9b99d5ab7594e9000044a66d24c5edbf7783b1e8189e338bc08af1"), looks := false }, kinds := [], alts := [], laidByText := true, laidKinds := [.data], laidTests := true, laidLooks := .later }
def IndexDropsCardSaid : Prop := Claim7.holds Tryd.pinned (.plain (OpenSpec.ofChange indexDropsSpec)) indexDropsCard

/-- THE TIED CARD OF 'lockfastlaw17.IndexApart'. -/
def indexApartCard : Claim7 := { stood := { row := indexApartRow, standIns := [], harness := (true, "fa422b530b9b99d5ab7594e9000044a66d24c5edbf7783b1e8189e338bc08af1"), looks := false }, kinds := [], alts := [], laidByText := true, laidKinds := [.data], laidTests := true, laidLooks := .later }
def IndexApartCardSaid : Prop := Claim7.holds Tryd.pinned (.plain (OpenSpec.ofChange indexApartSpec)) indexApartCard

/-- THE TIED CARD OF 'lockfastlaw17.IndexTable'. -/
def indexTableCard : Claim7 := { stood := { row := indexTableRow, standIns := [], harness := (true, "fa422b530b9b99d5ab7594e9000044a66d24c5edbf7783b1e8189e338bc08af1"), looks := false }, kinds := [], alts := [], laidByText := true, laidKinds := [.data], laidTests := true, laidLooks := .later }
def IndexTableCardSaid : Prop := Claim7.holds Tryd.pinned (.plain (OpenSpec.ofChange indexTableSpec)) indexTableCard

/-- THE SECOND FORM's CARD OF 'lockfastlaw17.IndexFrees'. -/
def indexFreesUptoCard : Claim7 := { stood := { row := indexFreesUptoRow, standIns := [], harness := (true, "fa422b530b9b99d5ab7594e9000044a66d24c5edbf7783b1e8189e338bc08af1"), looks := false }, kinds := [], alts := [], laidByText := true, laidKinds := [.data], laidTests := true, laidLooks := .later }
def IndexFreesUptoCardSaid : Prop := Claim7.holds Tryd.pinned (.plain (OpenSpec.upto indexFreesSpec)) indexFreesUptoCard

/-- THE SECOND FORM's CARD OF 'lockfastlaw17.IndexNoSpace'. -/
def indexNoSpaceUptoCard : Claim7 := { stood := { row := indexNoSpaceUptoRow, standIns := [], harness := (true, "fa422b530b9b99d5ab7594e9000044a66d24c5edbf7783b1e8189e338bc08af1"), looks := false }, kinds := [], alts := [], laidByText := true, laidKinds := [.data], laidTests := true, laidLooks := .later }
def IndexNoSpaceUptoCardSaid : Prop := Claim7.holds Tryd.pinned (.plain (OpenSpec.upto indexNoSpaceSpec)) indexNoSpaceUptoCard

/-- THE SECOND FORM's CARD OF 'lockfastlaw17.IndexPlays'. -/
def indexPlaysUptoCard : Claim7 := { stood := { row := indexPlaysUptoRow, standIns := [], harness := (true, "fa422b530b9b99d5ab7594e9000044a66d24c5edbf7783b1e8189e338bc08af1"), looks := false }, kinds := [], alts := [], laidByText := true, laidKinds := [.data], laidTests := true, laidLooks := .later }
def IndexPlaysUptoCardSaid : Prop := Claim7.holds Tryd.pinned (.plain (OpenSpec.upto indexPlaysSpec)) indexPlaysUptoCard

/-- THE SECOND FORM's CARD OF 'lockfastlaw17.IndexDrops'. -/
def indexDropsUptoCard : Claim7 := { stood := { row := indexDropsUptoRow, standIns := [], harness := (true, "fa422b530b9b99d5ab7594e9000044a66d24c5edbf7783b1e8189e338bc08af1"), looks := false }, kinds := [], alts := [], laidByText := true, laidKinds := [.data], laidTests := true, laidLooks := .later }
def IndexDropsUptoCardSaid : Prop := Claim7.holds Tryd.pinned (.plain (OpenSpec.upto indexDropsSpec)) indexDropsUptoCard

/-- THE SECOND FORM's CARD OF 'lockfastlaw17.IndexApart'. -/
def indexApartUptoCard : Claim7 := { stood := { row := indexApartUptoRow, standIns := [], harness := (true, "fa422b530b9b99d5ab7594e9000044a66d24c5edbf7783b1e8189e338bc08af1"), looks := false }, kinds := [], alts := [], laidByText := true, laidKinds := [.data], laidTests := true, laidLooks := .later }
def IndexApartUptoCardSaid : Prop := Claim7.holds Tryd.pinned (.plain (OpenSpec.upto indexApartSpec)) indexApartUptoCard

/-- THE SECOND FORM's CARD OF 'lockfastlaw17.IndexTable'. -/
def indexTableUptoCard : Claim7 := { stood := { row := indexTableUptoRow, standIns := [], harness := (true, "fa422b530b9b99d5ab7594e9000044a66d24c5edbf7783b1e8189e338bc08af1"), looks := false }, kinds := [], alts := [], laidByText := true, laidKinds := [.data], laidTests := true, laidLooks := .later }
def IndexTableUptoCardSaid : Prop := Claim7.holds Tryd.pinned (.plain (OpenSpec.upto indexTableSpec)) indexTableUptoCard
end Rows
end Go.Proofs.YtdcppkhobfbpeaaDoor
