/-
  DERIVED. GIVEN WITH THE SEED: THE CARDS: each row of YtfibdndnfaihdaaDoorRows.lean that lists a variable, with what it lists TIED to the program's text (the seventh form; the later family's looks); each row that meets fmt, with fmt's text TOLD by the authors' own Lean function (tested against real Go, not proved from fmt's source: count such statements apart). THE CARD IS WHAT COUNTS. Prove the row's statement (the work); the ties are given (YtfibdndnfaihdaaDoorTie.lean); close each card by the builder's one call (the guide's Derived/Test/ToyasCard.lean, 'card_holds'). Laid BY PROGRAM, IN A SANDBOX (cutbox-door.mjs). By AI agents, Wed Nov 11 2026. No macro, syntax, notation, axiom, sorry.
-/
import Derived.Test.YtfibdndnfaihdaaDoorRows
import GoSem.ClaimSeven
namespace Go.Proofs.YtfibdndnfaihdaaDoor
namespace Rows

/-- THE TIED CARD OF 'terrierlaw01.AddrText'. -/
def addrTextCard : Claim7 := { stood := { row := addrTextRow, standIns := [], harness := (true, "d12e08c1b26042d4c3432f04ba602dc9e5bc5c827ec3172ca311952583aff41c"), looks := false }, kinds := [], alts := [], laidByText := true, laidKinds := [.data, .data, .data, .data, .pinned], laidTests := true, laidLooks := .later }
def AddrTextCardSaid : Prop := Claim7.holds Tryd.pinned (.plain (OpenSpec.ofChange addrTextSpec)) addrTextCard

/-- THE TIED CARD OF 'terrierlaw01.AddrNumbers'. -/
def addrNumbersCard : Claim7 := { stood := { row := addrNumbersRow, standIns := [], harness := (true, "d12e08c1b26042d4c3432f04ba602dc9e5bc5c827ec3172ca311952583aff41c"), looks := false }, kinds := [], alts := [], laidByText := true, laidKinds := [.data, .data, .data, .data, .pinned], laidTests := true, laidLooks := .later }
def AddrNumbersCardSaid : Prop := Claim7.holds Tryd.pinned (.plain (OpenSpec.ofChange addrNumbersSpec)) addrNumbersCard

/-- THE TIED CARD OF 'terrierlaw01.AddrWithin'. -/
def addrWithinCard : Claim7 := { stood := { row := addrWithinRow, standIns := [], harness := (true, "d12e08c1b26042d4c3432f04ba602dc9e5bc5c827ec3172ca311952583aff41c"), looks := false }, kinds := [], alts := [], laidByText := true, laidKinds := [.data, .data, .data, .data, .pinned], laidTests := true, laidLooks := .later }
def AddrWithinCardSaid : Prop := Claim7.holds Tryd.pinned (.plain (OpenSpec.ofChange addrWithinSpec)) addrWithinCard

/-- THE TIED CARD OF 'terrierlaw01.AddrHas'. -/
def addrHasCard : Claim7 := { stood := { row := addrHasRow, standIns := [], harness := (true, "d12e08c1b26042d4c3432f04ba602dc9e5bc5c827ec3172ca311952583aff41c"), looks := false }, kinds := [], alts := [], laidByText := true, laidKinds := [.data, .data, .data, .data, .pinned], laidTests := true, laidLooks := .later }
def AddrHasCardSaid : Prop := Claim7.holds Tryd.pinned (.plain (OpenSpec.ofChange addrHasSpec)) addrHasCard

/-- THE TIED CARD OF 'terrierlaw01.AddrBlock'. -/
def addrBlockCard : Claim7 := { stood := { row := addrBlockRow, standIns := [], harness := (true, "d12e08c1b26042d4c3432f04ba602dc9e5bc5c827ec3172ca311952583aff41c"), looks := false }, kinds := [], alts := [], laidByText := true, laidKinds := [.data, .data, .data, .data, .pinned], laidTests := true, laidLooks := .later }
def AddrBlockCardSaid : Prop := Claim7.holds Tryd.pinned (.plain (OpenSpec.ofChange addrBlockSpec)) addrBlockCard

/-- THE TIED CARD OF 'terrierlaw01.AddrHalves'. -/
def addrHalvesCard : Claim7 := { stood := { row := addrHalvesRow, standIns := [], harness := (true, "d12e08c1b26042d4c3432f04ba602dc9e5bc5c827ec3172ca311952583aff41c"), looks := false }, kinds := [], alts := [], laidByText := true, laidKinds := [.data, .data, .data, .data, .pinned], laidTests := true, laidLooks := .later }
def AddrHalvesCardSaid : Prop := Claim7.holds Tryd.pinned (.plain (OpenSpec.ofChange addrHalvesSpec)) addrHalvesCard

/-- THE TIED CARD OF 'terrierlaw01.AddrRaw'. -/
def addrRawCard : Claim7 := { stood := { row := addrRawRow, standIns := [], harness := (true, "d12e08c1b26042d4c3432f04ba602dc9e5bc5c827ec3172ca311952583aff41c"), looks := false }, kinds := [], alts := [], laidByText := true, laidKinds := [.data, .data, .data, .data, .pinned], laidTests := true, laidLooks := .later }
def AddrRawCardSaid : Prop := Claim7.holds Tryd.pinned (.plain (OpenSpec.ofChange addrRawSpec)) addrRawCard

/-- THE SECOND FORM's CARD OF 'terrierlaw01.AddrText'. -/
def addrTextUptoCard : Claim7 := { stood := { row := addrTextUptoRow, standIns := [], harness := (true, "d12e08c1b26042d4c3432f04ba602dc9e5bc5c827ec3172ca311952583aff41c"), looks := false }, kinds := [], alts := [], laidByText := true, laidKinds := [.data, .data, .data, .data, .pinned], laidTests := true, laidLooks := .later }
def AddrTextUptoCardSaid : Prop := Claim7.holds Tryd.pinned (.plain (OpenSpec.upto addrTextSpec)) addrTextUptoCard

/-- THE SECOND FORM's CARD OF 'terrierlaw01.AddrNumbers'. -/
def addrNumbersUptoCard : Claim7 := { stood := { row := addrNumbersUptoRow, standIns := [], harness := (true, "d12e08c1b26042d4c3432f04ba602dc9e5bc5c827ec3172ca311952583aff41c"), looks := false }, kinds := [], alts := [], laidByText := true, laidKinds := [.data, .data, .data, .data, .pinned], laidTests := true, laidLooks := .later }
def AddrNumbersUptoCardSaid : Prop := Claim7.holds Tryd.pinned (.plain (OpenSpec.upto addrNumbersSpec)) addrNumbersUptoCard

/-- THE SECOND FORM's CARD OF 'terrierlaw01.AddrWithin'. -/
def addrWithinUptoCard : Claim7 := { stood := { row := addrWithinUptoRow, standIns := [], harness := (true, "d12e08c1b26042d4c3432f04ba602dc9e5bc5c827ec3172ca311952583aff41c"), looks := false }, kinds := [], alts := [], laidByText := true, laidKinds := [.data, .data, .data, .data, .pinned], laidTests := true, laidLooks := .later }
def AddrWithinUptoCardSaid : Prop := Claim7.holds Tryd.pinned (.plain (OpenSpec.upto addrWithinSpec)) addrWithinUptoCard

/-- THE SECOND FORM's CARD OF 'terrierlaw01.AddrHas'. -/
def addrHasUptoCard : Claim7 := { stood := { row := addrHasUptoRow, standIns := [], harness := (true, "d12e08c1b26042d4c3432f04ba602dc9e5bc5c827ec3172ca311952583aff41c"), looks := false }, kinds := [], alts := [], laidByText := true, laidKinds := [.data, .data, .data, .data, .pinned], laidTests := true, laidLooks := .later }
def AddrHasUptoCardSaid : Prop := Claim7.holds Tryd.pinned (.plain (OpenSpec.upto addrHasSpec)) addrHasUptoCard

/-- THE SECOND FORM's CARD OF 'terrierlaw01.AddrBlock'. -/
def addrBlockUptoCard : Claim7 := { stood := { row := addrBlockUptoRow, standIns := [], harness := (true, "d12e08c1b26042d4c3432f04ba602dc9e5bc5c827ec3172ca311952583aff41c"), looks := false }, kinds := [], alts := [], laidByText := true, laidKinds := [.data, .data, .data, .data, .pinned], laidTests := true, laidLooks := .later }
def AddrBlockUptoCardSaid : Prop := Claim7.holds Tryd.pinned (.plain (OpenSpec.upto addrBlockSpec)) addrBlockUptoCard

/-- THE SECOND FORM's CARD OF 'terrierlaw01.AddrHalves'. -/
def addrHalvesUptoCard : Claim7 := { stood := { row := addrHalvesUptoRow, standIns := [], harness := (true, "d12e08c1b26042d4c3432f04ba602dc9e5bc5c827ec3172ca311952583aff41c"), looks := false }, kinds := [], alts := [], laidByText := true, laidKinds := [.data, .data, .data, .data, .pinned], laidTests := true, laidLooks := .later }
def AddrHalvesUptoCardSaid : Prop := Claim7.holds Tryd.pinned (.plain (OpenSpec.upto addrHalvesSpec)) addrHalvesUptoCard

/-- THE SECOND FORM's CARD OF 'terrierlaw01.AddrRaw'. -/
def addrRawUptoCard : Claim7 := { stood := { row := addrRawUptoRow, standIns := [], harness := (true, "d12e08c1b26042d4c3432f04ba602dc9e5bc5c827ec3172ca311952583aff41c"), looks := false }, kinds := [], alts := [], laidByText := true, laidKinds := [.data, .data, .data, .data, .pinned], laidTests := true, laidLooks := .later }
def AddrRawUptoCardSaid : Prop := Claim7.holds Tryd.pinned (.plain (OpenSpec.upto addrRawSpec)) addrRawUptoCard
end Rows
end Go.Proofs.YtfibdndnfaihdaaDoor
