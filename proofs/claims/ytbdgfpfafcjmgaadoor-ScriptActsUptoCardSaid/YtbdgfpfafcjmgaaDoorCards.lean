/-
  DERIVED. GIVEN WITH THE SEED: THE CARDS: each row of YtbdgfpfafcjmgaaDoorRows.lean that lists a variable, with what it lists TIED to the program's text (the seventh form; the later family's looks); each row that meets fmt, with fmt's text TOLD by the authors' own Lean function (tested against real Go, not proved from fmt's source: count such statements apart). THE CARD IS WHAT COUNTS. Prove the row's statement (the work); the ties are given (YtbdgfpfafcjmgaaDoorTie.lean); close each card by the builder's one call (the guide's Derived/Test/ToyasCard.lean, 'card_holds'). Laid BY PROGRAM, IN A SANDBOX (cutbox-door.mjs). By AI agents, Wed Nov 11 2026. No macro, syntax, notation, axiom, sorry.
-/
import Derived.Test.YtbdgfpfafcjmgaaDoorRows
import GoSem.ClaimSeven
namespace Go.Proofs.YtbdgfpfafcjmgaaDoor
namespace Rows

/-- THE TIED CARD OF 'terrierlaw22.ScriptActs'. -/
def scriptActsCard : Claim7 := { stood := { row := scriptActsRow, standIns := [], harness := (true, "4b992efaa65d2a26315206e79fadb8ac4b4e3e57886429308c3df38f3a88ee6d"), looks := false }, kinds := [], alts := [], laidByText := true, laidKinds := [.data, .data, .data], laidTests := true, laidLooks := .later }
def ScriptActsCardSaid : Prop := Claim7.holds Tryd.pinned (.plain (OpenSpec.ofChange scriptActsSpec)) scriptActsCard

/-- THE TIED CARD OF 'terrierlaw22.ScriptParts'. -/
def scriptPartsCard : Claim7 := { stood := { row := scriptPartsRow, standIns := [], harness := (true, "4b992efaa65d2a26315206e79fadb8ac4b4e3e57886429308c3df38f3a88ee6d"), looks := false }, kinds := [], alts := [], laidByText := true, laidKinds := [.data, .data, .data], laidTests := true, laidLooks := .later }
def ScriptPartsCardSaid : Prop := Claim7.holds Tryd.pinned (.plain (OpenSpec.ofChange scriptPartsSpec)) scriptPartsCard

/-- THE TIED CARD OF 'terrierlaw22.ScriptTail'. -/
def scriptTailCard : Claim7 := { stood := { row := scriptTailRow, standIns := [], harness := (true, "4b992efaa65d2a26315206e79fadb8ac4b4e3e57886429308c3df38f3a88ee6d"), looks := false }, kinds := [], alts := [], laidByText := true, laidKinds := [.data, .data, .data], laidTests := true, laidLooks := .later }
def ScriptTailCardSaid : Prop := Claim7.holds Tryd.pinned (.plain (OpenSpec.ofChange scriptTailSpec)) scriptTailCard

/-- THE TIED CARD OF 'terrierlaw22.ScriptKinds'. -/
def scriptKindsCard : Claim7 := { stood := { row := scriptKindsRow, standIns := [], harness := (true, "4b992efaa65d2a26315206e79fadb8ac4b4e3e57886429308c3df38f3a88ee6d"), looks := false }, kinds := [], alts := [], laidByText := true, laidKinds := [.data, .data, .data], laidTests := true, laidLooks := .later }
def ScriptKindsCardSaid : Prop := Claim7.holds Tryd.pinned (.plain (OpenSpec.ofChange scriptKindsSpec)) scriptKindsCard

/-- THE SECOND FORM's CARD OF 'terrierlaw22.ScriptActs'. -/
def scriptActsUptoCard : Claim7 := { stood := { row := scriptActsUptoRow, standIns := [], harness := (true, "4b992efaa65d2a26315206e79fadb8ac4b4e3e57886429308c3df38f3a88ee6d"), looks := false }, kinds := [], alts := [], laidByText := true, laidKinds := [.data, .data, .data], laidTests := true, laidLooks := .later }
def ScriptActsUptoCardSaid : Prop := Claim7.holds Tryd.pinned (.plain (OpenSpec.upto scriptActsSpec)) scriptActsUptoCard

/-- THE SECOND FORM's CARD OF 'terrierlaw22.ScriptParts'. -/
def scriptPartsUptoCard : Claim7 := { stood := { row := scriptPartsUptoRow, standIns := [], harness := (true, "4b992efaa65d2a26315206e79fadb8ac4b4e3e57886429308c3df38f3a88ee6d"), looks := false }, kinds := [], alts := [], laidByText := true, laidKinds := [.data, .data, .data], laidTests := true, laidLooks := .later }
def ScriptPartsUptoCardSaid : Prop := Claim7.holds Tryd.pinned (.plain (OpenSpec.upto scriptPartsSpec)) scriptPartsUptoCard

/-- THE SECOND FORM's CARD OF 'terrierlaw22.ScriptTail'. -/
def scriptTailUptoCard : Claim7 := { stood := { row := scriptTailUptoRow, standIns := [], harness := (true, "4b992efaa65d2a26315206e79fadb8ac4b4e3e57886429308c3df38f3a88ee6d"), looks := false }, kinds := [], alts := [], laidByText := true, laidKinds := [.data, .data, .data], laidTests := true, laidLooks := .later }
def ScriptTailUptoCardSaid : Prop := Claim7.holds Tryd.pinned (.plain (OpenSpec.upto scriptTailSpec)) scriptTailUptoCard

/-- THE SECOND FORM's CARD OF 'terrierlaw22.ScriptKinds'. -/
def scriptKindsUptoCard : Claim7 := { stood := { row := scriptKindsUptoRow, standIns := [], harness := (true, "4b992efaa65d2a26315206e79fadb8ac4b4e3e57886429308c3df38f3a88ee6d"), looks := false }, kinds := [], alts := [], laidByText := true, laidKinds := [.data, .data, .data], laidTests := true, laidLooks := .later }
def ScriptKindsUptoCardSaid : Prop := Claim7.holds Tryd.pinned (.plain (OpenSpec.upto scriptKindsSpec)) scriptKindsUptoCard
end Rows
end Go.Proofs.YtbdgfpfafcjmgaaDoor
