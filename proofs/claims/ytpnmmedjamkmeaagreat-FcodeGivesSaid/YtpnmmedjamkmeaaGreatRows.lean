/-
  No cell of these rows narrows 'for every input' (looked for: loops, veiled, ifaces, maps, wideKeys, modest, calm, conditions, laid).
  DERIVED. THE GIVEN ROWS OF THIS SEAT. 4 by the template 'for every input the law returns true; each argument reads behind the call as it read before'; 0 by the template 'total and deterministic' (their statements: YtpnmmedjamkmeaaGreatTotals.lean).
  GIVEN WITH THE SEED: the statements are not yours to turn. If you find one false, say at which input.
  Laid BY PROGRAM, IN A SANDBOX (cutbox-rows.mjs): the forced cells as the released guide's own fill.sh prints them over the translation c4a2fe9d2afd51f5… (all of the seat's roots in one cut). By AI agents, Wed Nov 11 2026. No macro, syntax, notation, axiom, sorry.
-/
import Derived.Test.YtpnmmedjamkmeaaGreatChecked
import GoSem.Claim
import GoSem.ClaimJoined
import GoSem.ClaimMapViews
import Derived.JoinedTies
import Derived.KernelRfl
namespace Go.Proofs.YtpnmmedjamkmeaaGreat
/- THE CELL 'sum', in the pinned program and in every row, IS THE sha256 OF THE DUMP (.gsa) THAT YtpnmmedjamkmeaaGreatProg.lean LOADS. Nothing in Lean hashes anything: it is a label: what it is worth is what the hold of that sum in a sandbox is worth. -/
noncomputable def Tryz.pinned : Pinned := { name := "ytpnmmedjamkmeaagreat", sum := "c4a2fe9d2afd51f5883902dab727e3e69b8ed636475a95c84aed6acc31c49bd1", checked := Tryz.checked }
namespace Rows
def none {H : Type} : Left H := { results := [], args := [] }

/-- 'culletlaw18.FcodeGives': WHATEVER THE INPUT: true; the input reads as it did. -/
def fcodeGivesSpec : ChangeSpec := { name := "fcodeGives", fn := fun _ => fun
  | [d1, d2] => { results := [.lit (.bool true)], args := [d1, d2] }
  | _ => none }
def fcodeGivesRow : OpenClaim := { program := "ytpnmmedjamkmeaagreat", sum := "c4a2fe9d2afd51f5883902dab727e3e69b8ed636475a95c84aed6acc31c49bd1", func := "cullet/culletlaw18.FcodeGives", spec := "fcodeGives", unfollowed := true, recurses := true, apart := false }
def FcodeGivesSaid : Prop := fcodeGivesRow.holds Tryz.pinned (OpenSpec.ofChange fcodeGivesSpec)

/-- ITS FALSE NEIGHBOUR: 'it returns false'. Refute it at one input. -/
def fcodeGivesWrong : ChangeSpec := { name := "fcodeGives", fn := fun _ => fun
  | [d1, d2] => { results := [.lit (.bool false)], args := [d1, d2] }
  | _ => none }
def FcodeGivesWrongFalsely : Prop := fcodeGivesRow.holds Tryz.pinned (OpenSpec.ofChange fcodeGivesWrong)

/-- 'culletlaw18.FcodeMemory': WHATEVER THE INPUT: true; the input reads as it did. -/
def fcodeMemorySpec : ChangeSpec := { name := "fcodeMemory", fn := fun _ => fun
  | [d1, d2] => { results := [.lit (.bool true)], args := [d1, d2] }
  | _ => none }
def fcodeMemoryRow : OpenClaim := { program := "ytpnmmedjamkmeaagreat", sum := "c4a2fe9d2afd51f5883902dab727e3e69b8ed636475a95c84aed6acc31c49bd1", func := "cullet/culletlaw18.FcodeMemory", spec := "fcodeMemory", unfollowed := true, recurses := true, apart := false }
def FcodeMemorySaid : Prop := fcodeMemoryRow.holds Tryz.pinned (OpenSpec.ofChange fcodeMemorySpec)

/-- ITS FALSE NEIGHBOUR: 'it returns false'. Refute it at one input. -/
def fcodeMemoryWrong : ChangeSpec := { name := "fcodeMemory", fn := fun _ => fun
  | [d1, d2] => { results := [.lit (.bool false)], args := [d1, d2] }
  | _ => none }
def FcodeMemoryWrongFalsely : Prop := fcodeMemoryRow.holds Tryz.pinned (OpenSpec.ofChange fcodeMemoryWrong)

/-- 'culletlaw18.FcodeSpans': WHATEVER THE INPUT: true; the input reads as it did. -/
def fcodeSpansSpec : ChangeSpec := { name := "fcodeSpans", fn := fun _ => fun
  | [d] => { results := [.lit (.bool true)], args := [d] }
  | _ => none }
def fcodeSpansRow : OpenClaim := { program := "ytpnmmedjamkmeaagreat", sum := "c4a2fe9d2afd51f5883902dab727e3e69b8ed636475a95c84aed6acc31c49bd1", func := "cullet/culletlaw18.FcodeSpans", spec := "fcodeSpans", unfollowed := true, recurses := true, apart := false }
def FcodeSpansSaid : Prop := fcodeSpansRow.holds Tryz.pinned (OpenSpec.ofChange fcodeSpansSpec)

/-- ITS FALSE NEIGHBOUR: 'it returns false'. Refute it at one input. -/
def fcodeSpansWrong : ChangeSpec := { name := "fcodeSpans", fn := fun _ => fun
  | [d] => { results := [.lit (.bool false)], args := [d] }
  | _ => none }
def FcodeSpansWrongFalsely : Prop := fcodeSpansRow.holds Tryz.pinned (OpenSpec.ofChange fcodeSpansWrong)

/-- 'culletlaw18.FcodePlays': WHATEVER THE INPUT: true; the input reads as it did. -/
def fcodePlaysSpec : ChangeSpec := { name := "fcodePlays", fn := fun _ => fun
  | [d1, d2, d3] => { results := [.lit (.bool true)], args := [d1, d2, d3] }
  | _ => none }
def fcodePlaysRow : OpenClaim := { program := "ytpnmmedjamkmeaagreat", sum := "c4a2fe9d2afd51f5883902dab727e3e69b8ed636475a95c84aed6acc31c49bd1", func := "cullet/culletlaw18.FcodePlays", spec := "fcodePlays", unfollowed := true, recurses := true, apart := false }
def FcodePlaysSaid : Prop := fcodePlaysRow.holds Tryz.pinned (OpenSpec.ofChange fcodePlaysSpec)

/-- ITS FALSE NEIGHBOUR: 'it returns false'. Refute it at one input. -/
def fcodePlaysWrong : ChangeSpec := { name := "fcodePlays", fn := fun _ => fun
  | [d1, d2, d3] => { results := [.lit (.bool false)], args := [d1, d2, d3] }
  | _ => none }
def FcodePlaysWrongFalsely : Prop := fcodePlaysRow.holds Tryz.pinned (OpenSpec.ofChange fcodePlaysWrong)

/- THE SECOND FORM. 'bulk': how many values and letters a reading holds, each counted each time it is reached (what is shared counts as often as it is met; a slice's spare places count too). A statement '..UptoSaid' is the law's where the arguments, and the package variables that the reading takes, are together of bulk at most 1048576: NARROWER than '..Said'. Prove '..Said' where nothing that the law and all that it calls make is longer than what came in: it says more and counts as full. Else prove '..UptoSaid'. A law counts once. -/
mutual
def uptoBulk {H : Type} : DataW H → Nat
  | .lit (.string bytes) => bytes.length + 1
  | .lit _ => 1
  | .nil => 1
  | .ptr d => uptoBulk d + 1
  | .slice elems spare => uptoBulkAll elems + uptoBulkAll spare + 1
  | .agg parts => uptoBulkAll parts + 1
  | .iface _ d => uptoBulk d + 1
  | .map entries => uptoBulkEntries entries + 1
  | .held _ => 1
def uptoBulkAll {H : Type} : List (DataW H) → Nat
  | [] => 0
  | d :: r => uptoBulk d + uptoBulkAll r
def uptoBulkEntries {H : Type} : List (Lit × DataW H) → Nat
  | [] => 0
  | x :: r => uptoBulkEntry x + uptoBulkEntries r
def uptoBulkEntry {H : Type} : Lit × DataW H → Nat
  | (.string bytes, d) => bytes.length + uptoBulk d + 1
  | (_, d) => uptoBulk d + 1
 end
def uptoSmall : (H : Type) → List (DataW H) → Bool := fun _ ds => decide (uptoBulkAll ds ≤ 1048576)
def OpenSpec.upto (s : _root_.Go.ChangeSpec) : _root_.Go.OpenSpec := { _root_.Go.OpenSpec.ofChange s with cond := some uptoSmall }

/-- 'culletlaw18.FcodeGives', WHERE WHAT IT READS IS OF BULK AT MOST 1048576: true; the input reads as it did. -/
def fcodeGivesUptoRow : OpenClaim := { program := "ytpnmmedjamkmeaagreat", sum := "c4a2fe9d2afd51f5883902dab727e3e69b8ed636475a95c84aed6acc31c49bd1", func := "cullet/culletlaw18.FcodeGives", spec := "fcodeGives", unfollowed := true, recurses := true, apart := false, narrowed := true }
def FcodeGivesUptoSaid : Prop := fcodeGivesUptoRow.holds Tryz.pinned (OpenSpec.upto fcodeGivesSpec)

/-- 'culletlaw18.FcodeMemory', WHERE WHAT IT READS IS OF BULK AT MOST 1048576: true; the input reads as it did. -/
def fcodeMemoryUptoRow : OpenClaim := { program := "ytpnmmedjamkmeaagreat", sum := "c4a2fe9d2afd51f5883902dab727e3e69b8ed636475a95c84aed6acc31c49bd1", func := "cullet/culletlaw18.FcodeMemory", spec := "fcodeMemory", unfollowed := true, recurses := true, apart := false, narrowed := true }
def FcodeMemoryUptoSaid : Prop := fcodeMemoryUptoRow.holds Tryz.pinned (OpenSpec.upto fcodeMemorySpec)

/-- 'culletlaw18.FcodeSpans', WHERE WHAT IT READS IS OF BULK AT MOST 1048576: true; the input reads as it did. -/
def fcodeSpansUptoRow : OpenClaim := { program := "ytpnmmedjamkmeaagreat", sum := "c4a2fe9d2afd51f5883902dab727e3e69b8ed636475a95c84aed6acc31c49bd1", func := "cullet/culletlaw18.FcodeSpans", spec := "fcodeSpans", unfollowed := true, recurses := true, apart := false, narrowed := true }
def FcodeSpansUptoSaid : Prop := fcodeSpansUptoRow.holds Tryz.pinned (OpenSpec.upto fcodeSpansSpec)

/-- 'culletlaw18.FcodePlays', WHERE WHAT IT READS IS OF BULK AT MOST 1048576: true; the input reads as it did. -/
def fcodePlaysUptoRow : OpenClaim := { program := "ytpnmmedjamkmeaagreat", sum := "c4a2fe9d2afd51f5883902dab727e3e69b8ed636475a95c84aed6acc31c49bd1", func := "cullet/culletlaw18.FcodePlays", spec := "fcodePlays", unfollowed := true, recurses := true, apart := false, narrowed := true }
def FcodePlaysUptoSaid : Prop := fcodePlaysUptoRow.holds Tryz.pinned (OpenSpec.upto fcodePlaysSpec)

end Rows
end Go.Proofs.YtpnmmedjamkmeaaGreat
