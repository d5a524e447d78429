/-
  No cell of these rows narrows 'for every input' (looked for: loops, veiled, ifaces, maps, wideKeys, modest, calm, conditions, laid).
  DERIVED. THE GIVEN ROWS OF THIS SEAT. 3 by the template 'for every input the law returns true; each argument reads behind the call as it read before'; 0 by the template 'total and deterministic' (their statements: YtklmhllelgjglaaGreatTotals.lean).
  GIVEN WITH THE SEED: the statements are not yours to turn. If you find one false, say at which input.
  Laid BY PROGRAM, IN A SANDBOX (cutbox-rows.mjs): the forced cells as the released guide's own fill.sh prints them over the translation 99a0f186ab2a6708… (all of the seat's roots in one cut). By AI agents, Wed Nov 11 2026. No macro, syntax, notation, axiom, sorry.
-/
import Derived.Test.YtklmhllelgjglaaGreatChecked
import GoSem.Claim
import GoSem.ClaimJoined
import GoSem.ClaimMapViews
import Derived.JoinedTies
import Derived.KernelRfl
namespace Go.Proofs.YtklmhllelgjglaaGreat
/- THE CELL 'sum', in the pinned program and in every row, IS THE sha256 OF THE DUMP (.gsa) THAT YtklmhllelgjglaaGreatProg.lean LOADS. Nothing in Lean hashes anything: it is a label: what it is worth is what the hold of that sum in a sandbox is worth. -/
noncomputable def Tryz.pinned : Pinned := { name := "ytklmhllelgjglaagreat", sum := "99a0f186ab2a6708915ee68bba027b970eee6cc767df76310730433089e1f6f1", checked := Tryz.checked }
namespace Rows
def none {H : Type} : Left H := { results := [], args := [] }

/-- 'terrierlaw19.CodecState': WHATEVER THE INPUT: true; the input reads as it did. -/
def codecStateSpec : ChangeSpec := { name := "codecState", fn := fun _ => fun
  | [d1, d2] => { results := [.lit (.bool true)], args := [d1, d2] }
  | _ => none }
def codecStateRow : OpenClaim := { program := "ytklmhllelgjglaagreat", sum := "99a0f186ab2a6708915ee68bba027b970eee6cc767df76310730433089e1f6f1", func := "terrier/terrierlaw19.CodecState", spec := "codecState", unfollowed := true, recurses := true, apart := false }
def CodecStateSaid : Prop := codecStateRow.holds Tryz.pinned (OpenSpec.ofChange codecStateSpec)

/-- ITS FALSE NEIGHBOUR: 'it returns false'. Refute it at one input. -/
def codecStateWrong : ChangeSpec := { name := "codecState", fn := fun _ => fun
  | [d1, d2] => { results := [.lit (.bool false)], args := [d1, d2] }
  | _ => none }
def CodecStateWrongFalsely : Prop := codecStateRow.holds Tryz.pinned (OpenSpec.ofChange codecStateWrong)

/-- 'terrierlaw19.CodecTurned': WHATEVER THE INPUT: true; the input reads as it did. -/
def codecTurnedSpec : ChangeSpec := { name := "codecTurned", fn := fun _ => fun
  | [d1, d2, d3, d4, d5] => { results := [.lit (.bool true)], args := [d1, d2, d3, d4, d5] }
  | _ => none }
def codecTurnedRow : OpenClaim := { program := "ytklmhllelgjglaagreat", sum := "99a0f186ab2a6708915ee68bba027b970eee6cc767df76310730433089e1f6f1", func := "terrier/terrierlaw19.CodecTurned", spec := "codecTurned", unfollowed := true, recurses := true, apart := false }
def CodecTurnedSaid : Prop := codecTurnedRow.holds Tryz.pinned (OpenSpec.ofChange codecTurnedSpec)

/-- ITS FALSE NEIGHBOUR: 'it returns false'. Refute it at one input. -/
def codecTurnedWrong : ChangeSpec := { name := "codecTurned", fn := fun _ => fun
  | [d1, d2, d3, d4, d5] => { results := [.lit (.bool false)], args := [d1, d2, d3, d4, d5] }
  | _ => none }
def CodecTurnedWrongFalsely : Prop := codecTurnedRow.holds Tryz.pinned (OpenSpec.ofChange codecTurnedWrong)

/-- 'terrierlaw19.CodecTwo': WHATEVER THE INPUT: true; the input reads as it did. -/
def codecTwoSpec : ChangeSpec := { name := "codecTwo", fn := fun _ => fun
  | [d1, d2, d3] => { results := [.lit (.bool true)], args := [d1, d2, d3] }
  | _ => none }
def codecTwoRow : OpenClaim := { program := "ytklmhllelgjglaagreat", sum := "99a0f186ab2a6708915ee68bba027b970eee6cc767df76310730433089e1f6f1", func := "terrier/terrierlaw19.CodecTwo", spec := "codecTwo", unfollowed := true, recurses := true, apart := false }
def CodecTwoSaid : Prop := codecTwoRow.holds Tryz.pinned (OpenSpec.ofChange codecTwoSpec)

/-- ITS FALSE NEIGHBOUR: 'it returns false'. Refute it at one input. -/
def codecTwoWrong : ChangeSpec := { name := "codecTwo", fn := fun _ => fun
  | [d1, d2, d3] => { results := [.lit (.bool false)], args := [d1, d2, d3] }
  | _ => none }
def CodecTwoWrongFalsely : Prop := codecTwoRow.holds Tryz.pinned (OpenSpec.ofChange codecTwoWrong)

/- THE SECOND FORM. 'bulk': how many values and letters a reading holds, each counted each time it is reached (what is shared counts as often as it is met; a slice's spare places count too). A statement '..UptoSaid' is the law's where the arguments, and the package variables that the reading takes, are together of bulk at most 1048576: NARROWER than '..Said'. Prove '..Said' where nothing that the law and all that it calls make is longer than what came in: it says more and counts as full. Else prove '..UptoSaid'. A law counts once. -/
mutual
def uptoBulk {H : Type} : DataW H → Nat
  | .lit (.string bytes) => bytes.length + 1
  | .lit _ => 1
  | .nil => 1
  | .ptr d => uptoBulk d + 1
  | .slice elems spare => uptoBulkAll elems + uptoBulkAll spare + 1
  | .agg parts => uptoBulkAll parts + 1
  | .iface _ d => uptoBulk d + 1
  | .map entries => uptoBulkEntries entries + 1
  | .held _ => 1
def uptoBulkAll {H : Type} : List (DataW H) → Nat
  | [] => 0
  | d :: r => uptoBulk d + uptoBulkAll r
def uptoBulkEntries {H : Type} : List (Lit × DataW H) → Nat
  | [] => 0
  | x :: r => uptoBulkEntry x + uptoBulkEntries r
def uptoBulkEntry {H : Type} : Lit × DataW H → Nat
  | (.string bytes, d) => bytes.length + uptoBulk d + 1
  | (_, d) => uptoBulk d + 1
 end
def uptoSmall : (H : Type) → List (DataW H) → Bool := fun _ ds => decide (uptoBulkAll ds ≤ 1048576)
def OpenSpec.upto (s : _root_.Go.ChangeSpec) : _root_.Go.OpenSpec := { _root_.Go.OpenSpec.ofChange s with cond := some uptoSmall }

/-- 'terrierlaw19.CodecState', WHERE WHAT IT READS IS OF BULK AT MOST 1048576: true; the input reads as it did. -/
def codecStateUptoRow : OpenClaim := { program := "ytklmhllelgjglaagreat", sum := "99a0f186ab2a6708915ee68bba027b970eee6cc767df76310730433089e1f6f1", func := "terrier/terrierlaw19.CodecState", spec := "codecState", unfollowed := true, recurses := true, apart := false, narrowed := true }
def CodecStateUptoSaid : Prop := codecStateUptoRow.holds Tryz.pinned (OpenSpec.upto codecStateSpec)

/-- 'terrierlaw19.CodecTurned', WHERE WHAT IT READS IS OF BULK AT MOST 1048576: true; the input reads as it did. -/
def codecTurnedUptoRow : OpenClaim := { program := "ytklmhllelgjglaagreat", sum := "99a0f186ab2a6708915ee68bba027b970eee6cc767df76310730433089e1f6f1", func := "terrier/terrierlaw19.CodecTurned", spec := "codecTurned", unfollowed := true, recurses := true, apart := false, narrowed := true }
def CodecTurnedUptoSaid : Prop := codecTurnedUptoRow.holds Tryz.pinned (OpenSpec.upto codecTurnedSpec)

/-- 'terrierlaw19.CodecTwo', WHERE WHAT IT READS IS OF BULK AT MOST 1048576: true; the input reads as it did. -/
def codecTwoUptoRow : OpenClaim := { program := "ytklmhllelgjglaagreat", sum := "99a0f186ab2a6708915ee68bba027b970eee6cc767df76310730433089e1f6f1", func := "terrier/terrierlaw19.CodecTwo", spec := "codecTwo", unfollowed := true, recurses := true, apart := false, narrowed := true }
def CodecTwoUptoSaid : Prop := codecTwoUptoRow.holds Tryz.pinned (OpenSpec.upto codecTwoSpec)

end Rows
end Go.Proofs.YtklmhllelgjglaaGreat
