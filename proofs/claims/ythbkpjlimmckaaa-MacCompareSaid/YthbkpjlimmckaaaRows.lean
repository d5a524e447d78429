/-
  No cell of these rows narrows 'for every input' (looked for: loops, veiled, ifaces, maps, wideKeys, modest, calm, conditions, laid).
  DERIVED. THE GIVEN ROWS OF THIS SEAT. 5 by the template 'for every input the law returns true; each argument reads behind the call as it read before'; 0 by the template 'total and deterministic' (their statements: YthbkpjlimmckaaaTotals.lean).
  GIVEN WITH THE SEED: the statements are not yours to turn. If you find one false, say at which input.
  Laid BY PROGRAM, IN A SANDBOX (cutbox-rows.mjs): the forced cells as the released guide's own fill.sh prints them over the translation c45ae871a9065c3e… (all of the seat's roots in one cut). By AI agents, Wed Nov 11 2026. No macro, syntax, notation, axiom, sorry.
-/
import Derived.Test.YthbkpjlimmckaaaChecked
import GoSem.Claim
import GoSem.ClaimJoined
import GoSem.ClaimMapViews
import Derived.JoinedTies
import Derived.KernelRfl
namespace Go.Proofs.Ythbkpjlimmckaaa
/- THE CELL 'sum', in the pinned program and in every row, IS THE sha256 OF THE DUMP (.gsa) THAT YthbkpjlimmckaaaProg.lean LOADS. Nothing in Lean hashes anything: it is a label: what it is worth is what the hold of that sum in a sandbox is worth. -/
noncomputable def Try.pinned : Pinned := { name := "ythbkpjlimmckaaa", sum := "c45ae871a9065c3e99cded6a580813166b3932eb0e88935db666d320a96870f9", checked := Try.checked }
namespace Rows
def none {H : Type} : Left H := { results := [], args := [] }

/-- 'terrierlaw02.MacText': WHATEVER THE INPUT: true; the input reads as it did. -/
def macTextSpec : ChangeSpec := { name := "macText", fn := fun _ => fun
  | [d1, d2, d3] => { results := [.lit (.bool true)], args := [d1, d2, d3] }
  | _ => none }
def macTextRow : OpenClaim := { program := "ythbkpjlimmckaaa", sum := "c45ae871a9065c3e99cded6a580813166b3932eb0e88935db666d320a96870f9", func := "terrier/terrierlaw02.MacText", spec := "macText", apart := false }
def MacTextSaid : Prop := macTextRow.holds Try.pinned (OpenSpec.ofChange macTextSpec)

/-- ITS FALSE NEIGHBOUR: 'it returns false'. Refute it at one input. -/
def macTextWrong : ChangeSpec := { name := "macText", fn := fun _ => fun
  | [d1, d2, d3] => { results := [.lit (.bool false)], args := [d1, d2, d3] }
  | _ => none }
def MacTextWrongFalsely : Prop := macTextRow.holds Try.pinned (OpenSpec.ofChange macTextWrong)

/-- 'terrierlaw02.MacAny': WHATEVER THE INPUT: true; the input reads as it did. -/
def macAnySpec : ChangeSpec := { name := "macAny", fn := fun _ => fun
  | [d1, d2, d3, d4] => { results := [.lit (.bool true)], args := [d1, d2, d3, d4] }
  | _ => none }
def macAnyRow : OpenClaim := { program := "ythbkpjlimmckaaa", sum := "c45ae871a9065c3e99cded6a580813166b3932eb0e88935db666d320a96870f9", func := "terrier/terrierlaw02.MacAny", spec := "macAny", apart := false }
def MacAnySaid : Prop := macAnyRow.holds Try.pinned (OpenSpec.ofChange macAnySpec)

/-- ITS FALSE NEIGHBOUR: 'it returns false'. Refute it at one input. -/
def macAnyWrong : ChangeSpec := { name := "macAny", fn := fun _ => fun
  | [d1, d2, d3, d4] => { results := [.lit (.bool false)], args := [d1, d2, d3, d4] }
  | _ => none }
def MacAnyWrongFalsely : Prop := macAnyRow.holds Try.pinned (OpenSpec.ofChange macAnyWrong)

/-- 'terrierlaw02.MacKinds': WHATEVER THE INPUT: true; the input reads as it did. -/
def macKindsSpec : ChangeSpec := { name := "macKinds", fn := fun _ => fun
  | [d] => { results := [.lit (.bool true)], args := [d] }
  | _ => none }
def macKindsRow : OpenClaim := { program := "ythbkpjlimmckaaa", sum := "c45ae871a9065c3e99cded6a580813166b3932eb0e88935db666d320a96870f9", func := "terrier/terrierlaw02.MacKinds", spec := "macKinds", apart := false }
def MacKindsSaid : Prop := macKindsRow.holds Try.pinned (OpenSpec.ofChange macKindsSpec)

/-- ITS FALSE NEIGHBOUR: 'it returns false'. Refute it at one input. -/
def macKindsWrong : ChangeSpec := { name := "macKinds", fn := fun _ => fun
  | [d] => { results := [.lit (.bool false)], args := [d] }
  | _ => none }
def MacKindsWrongFalsely : Prop := macKindsRow.holds Try.pinned (OpenSpec.ofChange macKindsWrong)

/-- 'terrierlaw02.MacRound': WHATEVER THE INPUT: true; the input reads as it did. -/
def macRoundSpec : ChangeSpec := { name := "macRound", fn := fun _ => fun
  | [d1, d2] => { results := [.lit (.bool true)], args := [d1, d2] }
  | _ => none }
def macRoundRow : OpenClaim := { program := "ythbkpjlimmckaaa", sum := "c45ae871a9065c3e99cded6a580813166b3932eb0e88935db666d320a96870f9", func := "terrier/terrierlaw02.MacRound", spec := "macRound", apart := false }
def MacRoundSaid : Prop := macRoundRow.holds Try.pinned (OpenSpec.ofChange macRoundSpec)

/-- ITS FALSE NEIGHBOUR: 'it returns false'. Refute it at one input. -/
def macRoundWrong : ChangeSpec := { name := "macRound", fn := fun _ => fun
  | [d1, d2] => { results := [.lit (.bool false)], args := [d1, d2] }
  | _ => none }
def MacRoundWrongFalsely : Prop := macRoundRow.holds Try.pinned (OpenSpec.ofChange macRoundWrong)

/-- 'terrierlaw02.MacCompare': WHATEVER THE INPUT: true; the input reads as it did. -/
def macCompareSpec : ChangeSpec := { name := "macCompare", fn := fun _ => fun
  | [d1, d2, d3, d4] => { results := [.lit (.bool true)], args := [d1, d2, d3, d4] }
  | _ => none }
def macCompareRow : OpenClaim := { program := "ythbkpjlimmckaaa", sum := "c45ae871a9065c3e99cded6a580813166b3932eb0e88935db666d320a96870f9", func := "terrier/terrierlaw02.MacCompare", spec := "macCompare", apart := false }
def MacCompareSaid : Prop := macCompareRow.holds Try.pinned (OpenSpec.ofChange macCompareSpec)

/-- ITS FALSE NEIGHBOUR: 'it returns false'. Refute it at one input. -/
def macCompareWrong : ChangeSpec := { name := "macCompare", fn := fun _ => fun
  | [d1, d2, d3, d4] => { results := [.lit (.bool false)], args := [d1, d2, d3, d4] }
  | _ => none }
def MacCompareWrongFalsely : Prop := macCompareRow.holds Try.pinned (OpenSpec.ofChange macCompareWrong)

/- THE SECOND FORM. 'bulk': how many values and letters a reading holds, each counted each time it is reached (what is shared counts as often as it is met; a slice's spare places count too). A statement '..UptoSaid' is the law's where the arguments, and the package variables that the reading takes, are together of bulk at most 1048576: NARROWER than '..Said'. Prove '..Said' where nothing that the law and all that it calls make is longer than what came in: it says more and counts as full. Else prove '..UptoSaid'. A law counts once. -/
mutual
def uptoBulk {H : Type} : DataW H → Nat
  | .lit (.string bytes) => bytes.length + 1
  | .lit _ => 1
  | .nil => 1
  | .ptr d => uptoBulk d + 1
  | .slice elems spare => uptoBulkAll elems + uptoBulkAll spare + 1
  | .agg parts => uptoBulkAll parts + 1
  | .iface _ d => uptoBulk d + 1
  | .map entries => uptoBulkEntries entries + 1
  | .held _ => 1
def uptoBulkAll {H : Type} : List (DataW H) → Nat
  | [] => 0
  | d :: r => uptoBulk d + uptoBulkAll r
def uptoBulkEntries {H : Type} : List (Lit × DataW H) → Nat
  | [] => 0
  | x :: r => uptoBulkEntry x + uptoBulkEntries r
def uptoBulkEntry {H : Type} : Lit × DataW H → Nat
  | (.string bytes, d) => bytes.length + uptoBulk d + 1
  | (_, d) => uptoBulk d + 1
 end
def uptoSmall : (H : Type) → List (DataW H) → Bool := fun _ ds => decide (uptoBulkAll ds ≤ 1048576)
def OpenSpec.upto (s : _root_.Go.ChangeSpec) : _root_.Go.OpenSpec := { _root_.Go.OpenSpec.ofChange s with cond := some uptoSmall }

/-- 'terrierlaw02.MacText', WHERE WHAT IT READS IS OF BULK AT MOST 1048576: true; the input reads as it did. -/
def macTextUptoRow : OpenClaim := { program := "ythbkpjlimmckaaa", sum := "c45ae871a9065c3e99cded6a580813166b3932eb0e88935db666d320a96870f9", func := "terrier/terrierlaw02.MacText", spec := "macText", apart := false, narrowed := true }
def MacTextUptoSaid : Prop := macTextUptoRow.holds Try.pinned (OpenSpec.upto macTextSpec)

/-- 'terrierlaw02.MacAny', WHERE WHAT IT READS IS OF BULK AT MOST 1048576: true; the input reads as it did. -/
def macAnyUptoRow : OpenClaim := { program := "ythbkpjlimmckaaa", sum := "c45ae871a9065c3e99cded6a580813166b3932eb0e88935db666d320a96870f9", func := "terrier/terrierlaw02.MacAny", spec := "macAny", apart := false, narrowed := true }
def MacAnyUptoSaid : Prop := macAnyUptoRow.holds Try.pinned (OpenSpec.upto macAnySpec)

/-- 'terrierlaw02.MacKinds', WHERE WHAT IT READS IS OF BULK AT MOST 1048576: true; the input reads as it did. -/
def macKindsUptoRow : OpenClaim := { program := "ythbkpjlimmckaaa", sum := "c45ae871a9065c3e99cded6a580813166b3932eb0e88935db666d320a96870f9", func := "terrier/terrierlaw02.MacKinds", spec := "macKinds", apart := false, narrowed := true }
def MacKindsUptoSaid : Prop := macKindsUptoRow.holds Try.pinned (OpenSpec.upto macKindsSpec)

/-- 'terrierlaw02.MacRound', WHERE WHAT IT READS IS OF BULK AT MOST 1048576: true; the input reads as it did. -/
def macRoundUptoRow : OpenClaim := { program := "ythbkpjlimmckaaa", sum := "c45ae871a9065c3e99cded6a580813166b3932eb0e88935db666d320a96870f9", func := "terrier/terrierlaw02.MacRound", spec := "macRound", apart := false, narrowed := true }
def MacRoundUptoSaid : Prop := macRoundUptoRow.holds Try.pinned (OpenSpec.upto macRoundSpec)

/-- 'terrierlaw02.MacCompare', WHERE WHAT IT READS IS OF BULK AT MOST 1048576: true; the input reads as it did. -/
def macCompareUptoRow : OpenClaim := { program := "ythbkpjlimmckaaa", sum := "c45ae871a9065c3e99cded6a580813166b3932eb0e88935db666d320a96870f9", func := "terrier/terrierlaw02.MacCompare", spec := "macCompare", apart := false, narrowed := true }
def MacCompareUptoSaid : Prop := macCompareUptoRow.holds Try.pinned (OpenSpec.upto macCompareSpec)

end Rows
end Go.Proofs.Ythbkpjlimmckaaa
