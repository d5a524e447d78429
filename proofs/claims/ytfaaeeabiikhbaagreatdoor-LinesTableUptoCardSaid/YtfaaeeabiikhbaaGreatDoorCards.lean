/-
  DERIVED. GIVEN WITH THE SEED: THE CARDS: each row of YtfaaeeabiikhbaaGreatDoorRows.lean that lists a variable, with what it lists TIED to the program's text (the seventh form; the later family's looks); each row that meets fmt, with fmt's text TOLD by the authors' own Lean function (tested against real Go, not proved from fmt's source: count such statements apart). THE CARD IS WHAT COUNTS. Prove the row's statement (the work); the ties are given (YtfaaeeabiikhbaaGreatDoorTie.lean); close each card by the builder's one call (the guide's Derived/Test/ToyasCard.lean, 'card_holds'). Laid BY PROGRAM, IN A SANDBOX (cutbox-door.mjs). By AI agents, Wed Nov 11 2026. No macro, syntax, notation, axiom, sorry.
-/
import Derived.Test.YtfaaeeabiikhbaaGreatDoorRows
import GoSem.ClaimSeven
namespace Go.Proofs.YtfaaeeabiikhbaaGreatDoor
namespace Rows

/-- THE TIED CARD OF 'terrierlaw17.CommandParse'. -/
def commandParseCard : Claim7 := { stood := { row := commandParseRow, standIns := [], harness := (true, "6e6c7f5d76060a96f22a448edb9f4f47930c0305f4afd7c912c76f2fcf3c44a8"), looks := true }, kinds := [], alts := [], laidByText := true, laidKinds := [.data, .data, .data, .data, .handle, .pinned, .pinned, .pinned, .pinned, .pinned, .pinned], laidTests := true, laidLooks := .later }
def CommandParseCardSaid : Prop := Claim7.holds Tryz.pinned (.plain (OpenSpec.ofChange commandParseSpec)) commandParseCard

/-- THE TIED CARD OF 'terrierlaw17.CommandLong'. -/
def commandLongCard : Claim7 := { stood := { row := commandLongRow, standIns := [], harness := (true, "6e6c7f5d76060a96f22a448edb9f4f47930c0305f4afd7c912c76f2fcf3c44a8"), looks := true }, kinds := [], alts := [], laidByText := true, laidKinds := [.data, .data, .data, .data, .handle, .pinned, .pinned, .pinned, .pinned, .pinned, .pinned], laidTests := true, laidLooks := .later }
def CommandLongCardSaid : Prop := Claim7.holds Tryz.pinned (.plain (OpenSpec.ofChange commandLongSpec)) commandLongCard

/-- THE TIED CARD OF 'terrierlaw17.CommandWhere'. -/
def commandWhereCard : Claim7 := { stood := { row := commandWhereRow, standIns := [], harness := (true, "6e6c7f5d76060a96f22a448edb9f4f47930c0305f4afd7c912c76f2fcf3c44a8"), looks := true }, kinds := [], alts := [], laidByText := true, laidKinds := [.data, .data, .data, .data, .handle, .pinned, .pinned, .pinned, .pinned, .pinned, .pinned], laidTests := true, laidLooks := .later }
def CommandWhereCardSaid : Prop := Claim7.holds Tryz.pinned (.plain (OpenSpec.ofChange commandWhereSpec)) commandWhereCard

/-- THE TIED CARD OF 'terrierlaw17.CommandApart'. -/
def commandApartCard : Claim7 := { stood := { row := commandApartRow, standIns := [], harness := (true, "6e6c7f5d76060a96f22a448edb9f4f47930c0305f4afd7c912c76f2fcf3c44a8"), looks := true }, kinds := [], alts := [], laidByText := true, laidKinds := [.data, .data, .data, .data, .handle, .pinned, .pinned, .pinned, .pinned, .pinned, .pinned], laidTests := true, laidLooks := .later }
def CommandApartCardSaid : Prop := Claim7.holds Tryz.pinned (.plain (OpenSpec.ofChange commandApartSpec)) commandApartCard

/-- THE TIED CARD OF 'terrierlaw08.LinesWrap'. -/
def linesWrapCard : Claim7 := { stood := { row := linesWrapRow, standIns := [], harness := (true, "6e6c7f5d76060a96f22a448edb9f4f47930c0305f4afd7c912c76f2fcf3c44a8"), looks := true }, kinds := [], alts := [], laidByText := true, laidKinds := [.data, .data, .data, .data, .handle, .sentinel, .sentinel, .pinned, .pinned, .pinned, .pinned, .pinned, .pinned], laidTests := true, laidLooks := .later }
def LinesWrapCardSaid : Prop := Claim7.holds Tryz.pinned (.plain (OpenSpec.ofChange linesWrapSpec)) linesWrapCard

/-- THE TIED CARD OF 'terrierlaw08.LinesNeighbour'. -/
def linesNeighbourCard : Claim7 := { stood := { row := linesNeighbourRow, standIns := [], harness := (true, "6e6c7f5d76060a96f22a448edb9f4f47930c0305f4afd7c912c76f2fcf3c44a8"), looks := true }, kinds := [], alts := [], laidByText := true, laidKinds := [.data, .data, .data, .data, .handle, .sentinel, .sentinel, .pinned, .pinned, .pinned, .pinned, .pinned, .pinned], laidTests := true, laidLooks := .later }
def LinesNeighbourCardSaid : Prop := Claim7.holds Tryz.pinned (.plain (OpenSpec.ofChange linesNeighbourSpec)) linesNeighbourCard

/-- THE TIED CARD OF 'terrierlaw08.LinesLease'. -/
def linesLeaseCard : Claim7 := { stood := { row := linesLeaseRow, standIns := [], harness := (true, "6e6c7f5d76060a96f22a448edb9f4f47930c0305f4afd7c912c76f2fcf3c44a8"), looks := true }, kinds := [], alts := [], laidByText := true, laidKinds := [.data, .data, .data, .data, .handle, .sentinel, .sentinel, .pinned, .pinned, .pinned, .pinned, .pinned, .pinned], laidTests := true, laidLooks := .later }
def LinesLeaseCardSaid : Prop := Claim7.holds Tryz.pinned (.plain (OpenSpec.ofChange linesLeaseSpec)) linesLeaseCard

/-- THE TIED CARD OF 'terrierlaw08.LinesStation'. -/
def linesStationCard : Claim7 := { stood := { row := linesStationRow, standIns := [], harness := (true, "6e6c7f5d76060a96f22a448edb9f4f47930c0305f4afd7c912c76f2fcf3c44a8"), looks := true }, kinds := [], alts := [], laidByText := true, laidKinds := [.data, .data, .data, .data, .handle, .sentinel, .sentinel, .pinned, .pinned, .pinned, .pinned, .pinned, .pinned], laidTests := true, laidLooks := .later }
def LinesStationCardSaid : Prop := Claim7.holds Tryz.pinned (.plain (OpenSpec.ofChange linesStationSpec)) linesStationCard

/-- THE TIED CARD OF 'terrierlaw08.LinesTable'. -/
def linesTableCard : Claim7 := { stood := { row := linesTableRow, standIns := [], harness := (true, "6e6c7f5d76060a96f22a448edb9f4f47930c0305f4afd7c912c76f2fcf3c44a8"), looks := true }, kinds := [], alts := [], laidByText := true, laidKinds := [.data, .data, .data, .data, .handle, .sentinel, .sentinel, .pinned, .pinned, .pinned, .pinned, .pinned, .pinned], laidTests := true, laidLooks := .later }
def LinesTableCardSaid : Prop := Claim7.holds Tryz.pinned (.plain (OpenSpec.ofChange linesTableSpec)) linesTableCard

/-- THE SECOND FORM's CARD OF 'terrierlaw17.CommandParse'. -/
def commandParseUptoCard : Claim7 := { stood := { row := commandParseUptoRow, standIns := [], harness := (true, "6e6c7f5d76060a96f22a448edb9f4f47930c0305f4afd7c912c76f2fcf3c44a8"), looks := true }, kinds := [], alts := [], laidByText := true, laidKinds := [.data, .data, .data, .data, .handle, .pinned, .pinned, .pinned, .pinned, .pinned, .pinned], laidTests := true, laidLooks := .later }
def CommandParseUptoCardSaid : Prop := Claim7.holds Tryz.pinned (.plain (OpenSpec.upto commandParseSpec)) commandParseUptoCard

/-- THE SECOND FORM's CARD OF 'terrierlaw17.CommandLong'. -/
def commandLongUptoCard : Claim7 := { stood := { row := commandLongUptoRow, standIns := [], harness := (true, "6e6c7f5d76060a96f22a448edb9f4f47930c0305f4afd7c912c76f2fcf3c44a8"), looks := true }, kinds := [], alts := [], laidByText := true, laidKinds := [.data, .data, .data, .data, .handle, .pinned, .pinned, .pinned, .pinned, .pinned, .pinned], laidTests := true, laidLooks := .later }
def CommandLongUptoCardSaid : Prop := Claim7.holds Tryz.pinned (.plain (OpenSpec.upto commandLongSpec)) commandLongUptoCard

/-- THE SECOND FORM's CARD OF 'terrierlaw17.CommandWhere'. -/
def commandWhereUptoCard : Claim7 := { stood := { row := commandWhereUptoRow, standIns := [], harness := (true, "6e6c7f5d76060a96f22a448edb9f4f47930c0305f4afd7c912c76f2fcf3c44a8"), looks := true }, kinds := [], alts := [], laidByText := true, laidKinds := [.data, .data, .data, .data, .handle, .pinned, .pinned, .pinned, .pinned, .pinned, .pinned], laidTests := true, laidLooks := .later }
def CommandWhereUptoCardSaid : Prop := Claim7.holds Tryz.pinned (.plain (OpenSpec.upto commandWhereSpec)) commandWhereUptoCard

/-- THE SECOND FORM's CARD OF 'terrierlaw17.CommandApart'. -/
def commandApartUptoCard : Claim7 := { stood := { row := commandApartUptoRow, standIns := [], harness := (true, "6e6c7f5d76060a96f22a448edb9f4f47930c0305f4afd7c912c76f2fcf3c44a8"), looks := true }, kinds := [], alts := [], laidByText := true, laidKinds := [.data, .data, .data, .data, .handle, .pinned, .pinned, .pinned, .pinned, .pinned, .pinned], laidTests := true, laidLooks := .later }
def CommandApartUptoCardSaid : Prop := Claim7.holds Tryz.pinned (.plain (OpenSpec.upto commandApartSpec)) commandApartUptoCard

/-- THE SECOND FORM's CARD OF 'terrierlaw08.LinesWrap'. -/
def linesWrapUptoCard : Claim7 := { stood := { row := linesWrapUptoRow, standIns := [], harness := (true, "6e6c7f5d76060a96f22a448edb9f4f47930c0305f4afd7c912c76f2fcf3c44a8"), looks := true }, kinds := [], alts := [], laidByText := true, laidKinds := [.data, .data, .data, .data, .handle, .sentinel, .sentinel, .pinned, .pinned, .pinned, .pinned, .pinned, .pinned], laidTests := true, laidLooks := .later }
def LinesWrapUptoCardSaid : Prop := Claim7.holds Tryz.pinned (.plain (OpenSpec.upto linesWrapSpec)) linesWrapUptoCard

/-- THE SECOND FORM's CARD OF 'terrierlaw08.LinesNeighbour'. -/
def linesNeighbourUptoCard : Claim7 := { stood := { row := linesNeighbourUptoRow, standIns := [], harness := (true, "6e6c7f5d76060a96f22a448edb9f4f47930c0305f4afd7c912c76f2fcf3c44a8"), looks := true }, kinds := [], alts := [], laidByText := true, laidKinds := [.data, .data, .data, .data, .handle, .sentinel, .sentinel, .pinned, .pinned, .pinned, .pinned, .pinned, .pinned], laidTests := true, laidLooks := .later }
def LinesNeighbourUptoCardSaid : Prop := Claim7.holds Tryz.pinned (.plain (OpenSpec.upto linesNeighbourSpec)) linesNeighbourUptoCard

/-- THE SECOND FORM's CARD OF 'terrierlaw08.LinesLease'. -/
def linesLeaseUptoCard : Claim7 := { stood := { row := linesLeaseUptoRow, standIns := [], harness := (true, "6e6c7f5d76060a96f22a448edb9f4f47930c0305f4afd7c912c76f2fcf3c44a8"), looks := true }, kinds := [], alts := [], laidByText := true, laidKinds := [.data, .data, .data, .data, .handle, .sentinel, .sentinel, .pinned, .pinned, .pinned, .pinned, .pinned, .pinned], laidTests := true, laidLooks := .later }
def LinesLeaseUptoCardSaid : Prop := Claim7.holds Tryz.pinned (.plain (OpenSpec.upto linesLeaseSpec)) linesLeaseUptoCard

/-- THE SECOND FORM's CARD OF 'terrierlaw08.LinesStation'. -/
def linesStationUptoCard : Claim7 := { stood := { row := linesStationUptoRow, standIns := [], harness := (true, "6e6c7f5d76060a96f22a448edb9f4f47930c0305f4afd7c912c76f2fcf3c44a8"), looks := true }, kinds := [], alts := [], laidByText := true, laidKinds := [.data, .data, .data, .data, .handle, .sentinel, .sentinel, .pinned, .pinned, .pinned, .pinned, .pinned, .pinned], laidTests := true, laidLooks := .later }
def LinesStationUptoCardSaid : Prop := Claim7.holds Tryz.pinned (.plain (OpenSpec.upto linesStationSpec)) linesStationUptoCard

/-- THE SECOND FORM's CARD OF 'terrierlaw08.LinesTable'. -/
def linesTableUptoCard : Claim7 := { stood := { row := linesTableUptoRow, standIns := [], harness := (true, "6e6c7f5d76060a96f22a448edb9f4f47930c0305f4afd7c912c76f2fcf3c44a8"), looks := true }, kinds := [], alts := [], laidByText := true, laidKinds := [.data, .data, .data, .data, .handle, .sentinel, .sentinel, .pinned, .pinned, .pinned, .pinned, .pinned, .pinned], laidTests := true, laidLooks := .later }
def LinesTableUptoCardSaid : Prop := Claim7.holds Tryz.pinned (.plain (OpenSpec.upto linesTableSpec)) linesTableUptoCard
end Rows
end Go.Proofs.YtfaaeeabiikhbaaGreatDoor
