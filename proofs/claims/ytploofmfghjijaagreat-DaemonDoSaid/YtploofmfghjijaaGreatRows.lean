/-
  No cell of these rows narrows 'for every input' (looked for: loops, veiled, ifaces, maps, wideKeys, modest, calm, conditions, laid).
  DERIVED. THE GIVEN ROWS OF THIS SEAT. 5 by the template 'for every input the law returns true; each argument reads behind the call as it read before'; 0 by the template 'total and deterministic' (their statements: YtploofmfghjijaaGreatTotals.lean).
  GIVEN WITH THE SEED: the statements are not yours to turn. If you find one false, say at which input.
  Laid BY PROGRAM, IN A SANDBOX (cutbox-rows.mjs): the forced cells as the released guide's own fill.sh prints them over the translation 06638d89fccaafb1… (all of the seat's roots in one cut). By AI agents, Wed Nov 11 2026. No macro, syntax, notation, axiom, sorry.
-/
import Derived.Test.YtploofmfghjijaaGreatChecked
import GoSem.Claim
import GoSem.ClaimJoined
import GoSem.ClaimMapViews
import Derived.JoinedTies
import Derived.KernelRfl
namespace Go.Proofs.YtploofmfghjijaaGreat
/- THE CELL 'sum', in the pinned program and in every row, IS THE sha256 OF THE DUMP (.gsa) THAT YtploofmfghjijaaGreatProg.lean LOADS. Nothing in Lean hashes anything: it is a label: what it is worth is what the hold of that sum in a sandbox is worth. -/
noncomputable def Tryz.pinned : Pinned := { name := "ytploofmfghjijaagreat", sum := "06638d89fccaafb13c102bc2f8db456cb68de2c8520dc7dc427026e988dee531", checked := Tryz.checked }
namespace Rows
def none {H : Type} : Left H := { results := [], args := [] }

/-- 'terrierlaw20.DaemonForm': WHATEVER THE INPUT: true; the input reads as it did. -/
def daemonFormSpec : ChangeSpec := { name := "daemonForm", fn := fun _ => fun
  | [d1, d2, d3] => { results := [.lit (.bool true)], args := [d1, d2, d3] }
  | _ => none }
def daemonFormRow : OpenClaim := { program := "ytploofmfghjijaagreat", sum := "06638d89fccaafb13c102bc2f8db456cb68de2c8520dc7dc427026e988dee531", func := "terrier/terrierlaw20.DaemonForm", spec := "daemonForm", unfollowed := true, recurses := true, apart := false }
def DaemonFormSaid : Prop := daemonFormRow.holds Tryz.pinned (OpenSpec.ofChange daemonFormSpec)

/-- ITS FALSE NEIGHBOUR: 'it returns false'. Refute it at one input. -/
def daemonFormWrong : ChangeSpec := { name := "daemonForm", fn := fun _ => fun
  | [d1, d2, d3] => { results := [.lit (.bool false)], args := [d1, d2, d3] }
  | _ => none }
def DaemonFormWrongFalsely : Prop := daemonFormRow.holds Tryz.pinned (OpenSpec.ofChange daemonFormWrong)

/-- 'terrierlaw20.DaemonFails': WHATEVER THE INPUT: true; the input reads as it did. -/
def daemonFailsSpec : ChangeSpec := { name := "daemonFails", fn := fun _ => fun
  | [d1, d2, d3] => { results := [.lit (.bool true)], args := [d1, d2, d3] }
  | _ => none }
def daemonFailsRow : OpenClaim := { program := "ytploofmfghjijaagreat", sum := "06638d89fccaafb13c102bc2f8db456cb68de2c8520dc7dc427026e988dee531", func := "terrier/terrierlaw20.DaemonFails", spec := "daemonFails", unfollowed := true, recurses := true, apart := false }
def DaemonFailsSaid : Prop := daemonFailsRow.holds Tryz.pinned (OpenSpec.ofChange daemonFailsSpec)

/-- ITS FALSE NEIGHBOUR: 'it returns false'. Refute it at one input. -/
def daemonFailsWrong : ChangeSpec := { name := "daemonFails", fn := fun _ => fun
  | [d1, d2, d3] => { results := [.lit (.bool false)], args := [d1, d2, d3] }
  | _ => none }
def DaemonFailsWrongFalsely : Prop := daemonFailsRow.holds Tryz.pinned (OpenSpec.ofChange daemonFailsWrong)

/-- 'terrierlaw20.DaemonRefused': WHATEVER THE INPUT: true; the input reads as it did. -/
def daemonRefusedSpec : ChangeSpec := { name := "daemonRefused", fn := fun _ => fun
  | [d1, d2, d3] => { results := [.lit (.bool true)], args := [d1, d2, d3] }
  | _ => none }
def daemonRefusedRow : OpenClaim := { program := "ytploofmfghjijaagreat", sum := "06638d89fccaafb13c102bc2f8db456cb68de2c8520dc7dc427026e988dee531", func := "terrier/terrierlaw20.DaemonRefused", spec := "daemonRefused", unfollowed := true, recurses := true, apart := false }
def DaemonRefusedSaid : Prop := daemonRefusedRow.holds Tryz.pinned (OpenSpec.ofChange daemonRefusedSpec)

/-- ITS FALSE NEIGHBOUR: 'it returns false'. Refute it at one input. -/
def daemonRefusedWrong : ChangeSpec := { name := "daemonRefused", fn := fun _ => fun
  | [d1, d2, d3] => { results := [.lit (.bool false)], args := [d1, d2, d3] }
  | _ => none }
def DaemonRefusedWrongFalsely : Prop := daemonRefusedRow.holds Tryz.pinned (OpenSpec.ofChange daemonRefusedWrong)

/-- 'terrierlaw20.DaemonDo': WHATEVER THE INPUT: true; the input reads as it did. -/
def daemonDoSpec : ChangeSpec := { name := "daemonDo", fn := fun _ => fun
  | [d1, d2, d3] => { results := [.lit (.bool true)], args := [d1, d2, d3] }
  | _ => none }
def daemonDoRow : OpenClaim := { program := "ytploofmfghjijaagreat", sum := "06638d89fccaafb13c102bc2f8db456cb68de2c8520dc7dc427026e988dee531", func := "terrier/terrierlaw20.DaemonDo", spec := "daemonDo", unfollowed := true, recurses := true, apart := false }
def DaemonDoSaid : Prop := daemonDoRow.holds Tryz.pinned (OpenSpec.ofChange daemonDoSpec)

/-- ITS FALSE NEIGHBOUR: 'it returns false'. Refute it at one input. -/
def daemonDoWrong : ChangeSpec := { name := "daemonDo", fn := fun _ => fun
  | [d1, d2, d3] => { results := [.lit (.bool false)], args := [d1, d2, d3] }
  | _ => none }
def DaemonDoWrongFalsely : Prop := daemonDoRow.holds Tryz.pinned (OpenSpec.ofChange daemonDoWrong)

/-- 'terrierlaw20.DaemonKeep': WHATEVER THE INPUT: true; the input reads as it did. -/
def daemonKeepSpec : ChangeSpec := { name := "daemonKeep", fn := fun _ => fun
  | [d1, d2] => { results := [.lit (.bool true)], args := [d1, d2] }
  | _ => none }
def daemonKeepRow : OpenClaim := { program := "ytploofmfghjijaagreat", sum := "06638d89fccaafb13c102bc2f8db456cb68de2c8520dc7dc427026e988dee531", func := "terrier/terrierlaw20.DaemonKeep", spec := "daemonKeep", unfollowed := true, recurses := true, apart := false }
def DaemonKeepSaid : Prop := daemonKeepRow.holds Tryz.pinned (OpenSpec.ofChange daemonKeepSpec)

/-- ITS FALSE NEIGHBOUR: 'it returns false'. Refute it at one input. -/
def daemonKeepWrong : ChangeSpec := { name := "daemonKeep", fn := fun _ => fun
  | [d1, d2] => { results := [.lit (.bool false)], args := [d1, d2] }
  | _ => none }
def DaemonKeepWrongFalsely : Prop := daemonKeepRow.holds Tryz.pinned (OpenSpec.ofChange daemonKeepWrong)

/- THE SECOND FORM. 'bulk': how many values and letters a reading holds, each counted each time it is reached (what is shared counts as often as it is met; a slice's spare places count too). A statement '..UptoSaid' is the law's where the arguments, and the package variables that the reading takes, are together of bulk at most 1048576: NARROWER than '..Said'. Prove '..Said' where nothing that the law and all that it calls make is longer than what came in: it says more and counts as full. Else prove '..UptoSaid'. A law counts once. -/
mutual
def uptoBulk {H : Type} : DataW H → Nat
  | .lit (.string bytes) => bytes.length + 1
  | .lit _ => 1
  | .nil => 1
  | .ptr d => uptoBulk d + 1
  | .slice elems spare => uptoBulkAll elems + uptoBulkAll spare + 1
  | .agg parts => uptoBulkAll parts + 1
  | .iface _ d => uptoBulk d + 1
  | .map entries => uptoBulkEntries entries + 1
  | .held _ => 1
def uptoBulkAll {H : Type} : List (DataW H) → Nat
  | [] => 0
  | d :: r => uptoBulk d + uptoBulkAll r
def uptoBulkEntries {H : Type} : List (Lit × DataW H) → Nat
  | [] => 0
  | x :: r => uptoBulkEntry x + uptoBulkEntries r
def uptoBulkEntry {H : Type} : Lit × DataW H → Nat
  | (.string bytes, d) => bytes.length + uptoBulk d + 1
  | (_, d) => uptoBulk d + 1
 end
def uptoSmall : (H : Type) → List (DataW H) → Bool := fun _ ds => decide (uptoBulkAll ds ≤ 1048576)
def OpenSpec.upto (s : _root_.Go.ChangeSpec) : _root_.Go.OpenSpec := { _root_.Go.OpenSpec.ofChange s with cond := some uptoSmall }

/-- 'terrierlaw20.DaemonForm', WHERE WHAT IT READS IS OF BULK AT MOST 1048576: true; the input reads as it did. -/
def daemonFormUptoRow : OpenClaim := { program := "ytploofmfghjijaagreat", sum := "06638d89fccaafb13c102bc2f8db456cb68de2c8520dc7dc427026e988dee531", func := "terrier/terrierlaw20.DaemonForm", spec := "daemonForm", unfollowed := true, recurses := true, apart := false, narrowed := true }
def DaemonFormUptoSaid : Prop := daemonFormUptoRow.holds Tryz.pinned (OpenSpec.upto daemonFormSpec)

/-- 'terrierlaw20.DaemonFails', WHERE WHAT IT READS IS OF BULK AT MOST 1048576: true; the input reads as it did. -/
def daemonFailsUptoRow : OpenClaim := { program := "ytploofmfghjijaagreat", sum := "06638d89fccaafb13c102bc2f8db456cb68de2c8520dc7dc427026e988dee531", func := "terrier/terrierlaw20.DaemonFails", spec := "daemonFails", unfollowed := true, recurses := true, apart := false, narrowed := true }
def DaemonFailsUptoSaid : Prop := daemonFailsUptoRow.holds Tryz.pinned (OpenSpec.upto daemonFailsSpec)

/-- 'terrierlaw20.DaemonRefused', WHERE WHAT IT READS IS OF BULK AT MOST 1048576: true; the input reads as it did. -/
def daemonRefusedUptoRow : OpenClaim := { program := "ytploofmfghjijaagreat", sum := "06638d89fccaafb13c102bc2f8db456cb68de2c8520dc7dc427026e988dee531", func := "terrier/terrierlaw20.DaemonRefused", spec := "daemonRefused", unfollowed := true, recurses := true, apart := false, narrowed := true }
def DaemonRefusedUptoSaid : Prop := daemonRefusedUptoRow.holds Tryz.pinned (OpenSpec.upto daemonRefusedSpec)

/-- 'terrierlaw20.DaemonDo', WHERE WHAT IT READS IS OF BULK AT MOST 1048576: true; the input reads as it did. -/
def daemonDoUptoRow : OpenClaim := { program := "ytploofmfghjijaagreat", sum := "06638d89fccaafb13c102bc2f8db456cb68de2c8520dc7dc427026e988dee531", func := "terrier/terrierlaw20.DaemonDo", spec := "daemonDo", unfollowed := true, recurses := true, apart := false, narrowed := true }
def DaemonDoUptoSaid : Prop := daemonDoUptoRow.holds Tryz.pinned (OpenSpec.upto daemonDoSpec)

/-- 'terrierlaw20.DaemonKeep', WHERE WHAT IT READS IS OF BULK AT MOST 1048576: true; the input reads as it did. -/
def daemonKeepUptoRow : OpenClaim := { program := "ytploofmfghjijaagreat", sum := "06638d89fccaafb13c102bc2f8db456cb68de2c8520dc7dc427026e988dee531", func := "terrier/terrierlaw20.DaemonKeep", spec := "daemonKeep", unfollowed := true, recurses := true, apart := false, narrowed := true }
def DaemonKeepUptoSaid : Prop := daemonKeepUptoRow.holds Tryz.pinned (OpenSpec.upto daemonKeepSpec)

end Rows
end Go.Proofs.YtploofmfghjijaaGreat
