/-
  No cell of these rows narrows 'for every input' (looked for: loops, veiled, ifaces, maps, wideKeys, modest, calm, conditions, laid).
  DERIVED. THE GIVEN ROWS OF THIS SEAT. 4 by the template 'for every input the law returns true; each argument reads behind the call as it read before'; 0 by the template 'total and deterministic' (their statements: YtpnmmedjamkmeaaTotals.lean).
  GIVEN WITH THE SEED: the statements are not yours to turn. If you find one false, say at which input.
  Laid BY PROGRAM, IN A SANDBOX (cutbox-rows.mjs): the forced cells as the released guide's own fill.sh prints them over the translation f782dd5c9f01dfd9… (all of the seat's roots in one cut). By AI agents, Wed Nov 11 2026. No macro, syntax, notation, axiom, sorry.
-/
import Derived.Test.YtpnmmedjamkmeaaChecked
import GoSem.Claim
import GoSem.ClaimJoined
import GoSem.ClaimMapViews
import Derived.JoinedTies
import Derived.KernelRfl
namespace Go.Proofs.Ytpnmmedjamkmeaa
/- THE CELL 'sum', in the pinned program and in every row, IS THE sha256 OF THE DUMP (.gsa) THAT YtpnmmedjamkmeaaProg.lean LOADS. Nothing in Lean hashes anything: it is a label: what it is worth is what the hold of that sum in a sandbox is worth. -/
noncomputable def Try.pinned : Pinned := { name := "ytpnmmedjamkmeaa", sum := "f782dd5c9f01dfd9ff3c9c4a6c984c119beeed64903bfb141333c1603c84dc1f", checked := Try.checked }
namespace Rows
def none {H : Type} : Left H := { results := [], args := [] }

/-- 'culletlaw15.WalshDifferences': WHATEVER THE INPUT: true; the input reads as it did. -/
def walshDifferencesSpec : ChangeSpec := { name := "walshDifferences", fn := fun _ => fun
  | [d1, d2] => { results := [.lit (.bool true)], args := [d1, d2] }
  | _ => none }
def walshDifferencesRow : OpenClaim := { program := "ytpnmmedjamkmeaa", sum := "f782dd5c9f01dfd9ff3c9c4a6c984c119beeed64903bfb141333c1603c84dc1f", func := "cullet/culletlaw15.WalshDifferences", spec := "walshDifferences", apart := false }
def WalshDifferencesSaid : Prop := walshDifferencesRow.holds Try.pinned (OpenSpec.ofChange walshDifferencesSpec)

/-- ITS FALSE NEIGHBOUR: 'it returns false'. Refute it at one input. -/
def walshDifferencesWrong : ChangeSpec := { name := "walshDifferences", fn := fun _ => fun
  | [d1, d2] => { results := [.lit (.bool false)], args := [d1, d2] }
  | _ => none }
def WalshDifferencesWrongFalsely : Prop := walshDifferencesRow.holds Try.pinned (OpenSpec.ofChange walshDifferencesWrong)

/-- 'culletlaw18.FcodeTells': WHATEVER THE INPUT: true; the input reads as it did. -/
def fcodeTellsSpec : ChangeSpec := { name := "fcodeTells", fn := fun _ => fun
  | [d1, d2] => { results := [.lit (.bool true)], args := [d1, d2] }
  | _ => none }
def fcodeTellsRow : OpenClaim := { program := "ytpnmmedjamkmeaa", sum := "f782dd5c9f01dfd9ff3c9c4a6c984c119beeed64903bfb141333c1603c84dc1f", func := "cullet/culletlaw18.FcodeTells", spec := "fcodeTells", unfollowed := true, recurses := true, apart := false }
def FcodeTellsSaid : Prop := fcodeTellsRow.holds Try.pinned (OpenSpec.ofChange fcodeTellsSpec)

/-- ITS FALSE NEIGHBOUR: 'it returns false'. Refute it at one input. -/
def fcodeTellsWrong : ChangeSpec := { name := "fcodeTells", fn := fun _ => fun
  | [d1, d2] => { results := [.lit (.bool false)], args := [d1, d2] }
  | _ => none }
def FcodeTellsWrongFalsely : Prop := fcodeTellsRow.holds Try.pinned (OpenSpec.ofChange fcodeTellsWrong)

/-- 'culletlaw18.FcodeTextbook': WHATEVER THE INPUT: true; the input reads as it did. -/
def fcodeTextbookSpec : ChangeSpec := { name := "fcodeTextbook", fn := fun _ => fun
  | [d] => { results := [.lit (.bool true)], args := [d] }
  | _ => none }
def fcodeTextbookRow : OpenClaim := { program := "ytpnmmedjamkmeaa", sum := "f782dd5c9f01dfd9ff3c9c4a6c984c119beeed64903bfb141333c1603c84dc1f", func := "cullet/culletlaw18.FcodeTextbook", spec := "fcodeTextbook", unfollowed := true, recurses := true, apart := false }
def FcodeTextbookSaid : Prop := fcodeTextbookRow.holds Try.pinned (OpenSpec.ofChange fcodeTextbookSpec)

/-- ITS FALSE NEIGHBOUR: 'it returns false'. Refute it at one input. -/
def fcodeTextbookWrong : ChangeSpec := { name := "fcodeTextbook", fn := fun _ => fun
  | [d] => { results := [.lit (.bool false)], args := [d] }
  | _ => none }
def FcodeTextbookWrongFalsely : Prop := fcodeTextbookRow.holds Try.pinned (OpenSpec.ofChange fcodeTextbookWrong)

/-- 'culletlaw18.FcodeUpdates': WHATEVER THE INPUT: true; the input reads as it did. -/
def fcodeUpdatesSpec : ChangeSpec := { name := "fcodeUpdates", fn := fun _ => fun
  | [d1, d2] => { results := [.lit (.bool true)], args := [d1, d2] }
  | _ => none }
def fcodeUpdatesRow : OpenClaim := { program := "ytpnmmedjamkmeaa", sum := "f782dd5c9f01dfd9ff3c9c4a6c984c119beeed64903bfb141333c1603c84dc1f", func := "cullet/culletlaw18.FcodeUpdates", spec := "fcodeUpdates", unfollowed := true, recurses := true, apart := false }
def FcodeUpdatesSaid : Prop := fcodeUpdatesRow.holds Try.pinned (OpenSpec.ofChange fcodeUpdatesSpec)

/-- ITS FALSE NEIGHBOUR: 'it returns false'. Refute it at one input. -/
def fcodeUpdatesWrong : ChangeSpec := { name := "fcodeUpdates", fn := fun _ => fun
  | [d1, d2] => { results := [.lit (.bool false)], args := [d1, d2] }
  | _ => none }
def FcodeUpdatesWrongFalsely : Prop := fcodeUpdatesRow.holds Try.pinned (OpenSpec.ofChange fcodeUpdatesWrong)

/- THE SECOND FORM. 'bulk': how many values and letters a reading holds, each counted each time it is reached (what is shared counts as often as it is met; a slice's spare places count too). A statement '..UptoSaid' is the law's where the arguments, and the package variables that the reading takes, are together of bulk at most 1048576: NARROWER than '..Said'. Prove '..Said' where nothing that the law and all that it calls make is longer than what came in: it says more and counts as full. Else prove '..UptoSaid'. A law counts once. -/
mutual
def uptoBulk {H : Type} : DataW H → Nat
  | .lit (.string bytes) => bytes.length + 1
  | .lit _ => 1
  | .nil => 1
  | .ptr d => uptoBulk d + 1
  | .slice elems spare => uptoBulkAll elems + uptoBulkAll spare + 1
  | .agg parts => uptoBulkAll parts + 1
  | .iface _ d => uptoBulk d + 1
  | .map entries => uptoBulkEntries entries + 1
  | .held _ => 1
def uptoBulkAll {H : Type} : List (DataW H) → Nat
  | [] => 0
  | d :: r => uptoBulk d + uptoBulkAll r
def uptoBulkEntries {H : Type} : List (Lit × DataW H) → Nat
  | [] => 0
  | x :: r => uptoBulkEntry x + uptoBulkEntries r
def uptoBulkEntry {H : Type} : Lit × DataW H → Nat
  | (.string bytes, d) => bytes.length + uptoBulk d + 1
  | (_, d) => uptoBulk d + 1
 end
def uptoSmall : (H : Type) → List (DataW H) → Bool := fun _ ds => decide (uptoBulkAll ds ≤ 1048576)
def OpenSpec.upto (s : _root_.Go.ChangeSpec) : _root_.Go.OpenSpec := { _root_.Go.OpenSpec.ofChange s with cond := some uptoSmall }

/-- 'culletlaw15.WalshDifferences', WHERE WHAT IT READS IS OF BULK AT MOST 1048576: true; the input reads as it did. -/
def walshDifferencesUptoRow : OpenClaim := { program := "ytpnmmedjamkmeaa", sum := "f782dd5c9f01dfd9ff3c9c4a6c984c119beeed64903bfb141333c1603c84dc1f", func := "cullet/culletlaw15.WalshDifferences", spec := "walshDifferences", apart := false, narrowed := true }
def WalshDifferencesUptoSaid : Prop := walshDifferencesUptoRow.holds Try.pinned (OpenSpec.upto walshDifferencesSpec)

/-- 'culletlaw18.FcodeTells', WHERE WHAT IT READS IS OF BULK AT MOST 1048576: true; the input reads as it did. -/
def fcodeTellsUptoRow : OpenClaim := { program := "ytpnmmedjamkmeaa", sum := "f782dd5c9f01dfd9ff3c9c4a6c984c119beeed64903bfb141333c1603c84dc1f", func := "cullet/culletlaw18.FcodeTells", spec := "fcodeTells", unfollowed := true, recurses := true, apart := false, narrowed := true }
def FcodeTellsUptoSaid : Prop := fcodeTellsUptoRow.holds Try.pinned (OpenSpec.upto fcodeTellsSpec)

/-- 'culletlaw18.FcodeTextbook', WHERE WHAT IT READS IS OF BULK AT MOST 1048576: true; the input reads as it did. -/
def fcodeTextbookUptoRow : OpenClaim := { program := "ytpnmmedjamkmeaa", sum := "f782dd5c9f01dfd9ff3c9c4a6c984c119beeed64903bfb141333c1603c84dc1f", func := "cullet/culletlaw18.FcodeTextbook", spec := "fcodeTextbook", unfollowed := true, recurses := true, apart := false, narrowed := true }
def FcodeTextbookUptoSaid : Prop := fcodeTextbookUptoRow.holds Try.pinned (OpenSpec.upto fcodeTextbookSpec)

/-- 'culletlaw18.FcodeUpdates', WHERE WHAT IT READS IS OF BULK AT MOST 1048576: true; the input reads as it did. -/
def fcodeUpdatesUptoRow : OpenClaim := { program := "ytpnmmedjamkmeaa", sum := "f782dd5c9f01dfd9ff3c9c4a6c984c119beeed64903bfb141333c1603c84dc1f", func := "cullet/culletlaw18.FcodeUpdates", spec := "fcodeUpdates", unfollowed := true, recurses := true, apart := false, narrowed := true }
def FcodeUpdatesUptoSaid : Prop := fcodeUpdatesUptoRow.holds Try.pinned (OpenSpec.upto fcodeUpdatesSpec)

end Rows
end Go.Proofs.Ytpnmmedjamkmeaa
