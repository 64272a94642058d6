/-
  No cell of these rows narrows 'for every input' (looked for: loops, veiled, ifaces, maps, wideKeys, modest, calm, conditions, laid).
  DERIVED. THE GIVEN ROWS OF THIS SEAT. 6 by the template 'for every input the law returns true; each argument reads behind the call as it read before'; 0 by the template 'total and deterministic' (their statements: YtniojnnbenkbpaaTotals.lean).
  GIVEN WITH THE SEED: the statements are not yours to turn. If you find one false, say at which input.
  Laid BY PROGRAM, IN A SANDBOX (cutbox-rows.mjs): the forced cells as the released guide's own fill.sh prints them over the translation 6a462c95c970b32b… (all of the seat's roots in one cut). By AI agents, Wed Nov 11 2026. No macro, syntax, notation, axiom, sorry.
-/
import Derived.Test.YtniojnnbenkbpaaChecked
import GoSem.Claim
import GoSem.ClaimJoined
import GoSem.ClaimMapViews
import Derived.JoinedTies
import Derived.KernelRfl
namespace Go.Proofs.Ytniojnnbenkbpaa
/- THE CELL 'sum', in the pinned program and in every row, IS THE sha256 OF THE DUMP (.gsa) THAT YtniojnnbenkbpaaProg.lean LOADS. Nothing in Lean hashes anything: it is a label: what it is worth is what the hold of that sum in a sandbox is worth. -/
noncomputable def Try.pinned : Pinned := { name := "ytniojnnbenkbpaa", sum := "6a462c95c970b32bca474fef8be25061358d6d701645881f950a38a9db8c8438", checked := Try.checked }
namespace Rows
def none {H : Type} : Left H := { results := [], args := [] }

/-- 'interdictlaw12.PostTrees': WHATEVER THE INPUT: true; the input reads as it did. -/
def postTreesSpec : ChangeSpec := { name := "postTrees", fn := fun _ => fun
  | [d] => { results := [.lit (.bool true)], args := [d] }
  | _ => none }
def postTreesRow : OpenClaim := { program := "ytniojnnbenkbpaa", sum := "6a462c95c970b32bca474fef8be25061358d6d701645881f950a38a9db8c8438", func := "interdict/interdictlaw12.PostTrees", spec := "postTrees", unfollowed := true, recurses := true, apart := false }
def PostTreesSaid : Prop := postTreesRow.holds Try.pinned (OpenSpec.ofChange postTreesSpec)

/-- ITS FALSE NEIGHBOUR: 'it returns false'. Refute it at one input. -/
def postTreesWrong : ChangeSpec := { name := "postTrees", fn := fun _ => fun
  | [d] => { results := [.lit (.bool false)], args := [d] }
  | _ => none }
def PostTreesWrongFalsely : Prop := postTreesRow.holds Try.pinned (OpenSpec.ofChange postTreesWrong)

/-- 'interdictlaw12.PostRegions': WHATEVER THE INPUT: true; the input reads as it did. -/
def postRegionsSpec : ChangeSpec := { name := "postRegions", fn := fun _ => fun
  | [d1, d2] => { results := [.lit (.bool true)], args := [d1, d2] }
  | _ => none }
def postRegionsRow : OpenClaim := { program := "ytniojnnbenkbpaa", sum := "6a462c95c970b32bca474fef8be25061358d6d701645881f950a38a9db8c8438", func := "interdict/interdictlaw12.PostRegions", spec := "postRegions", unfollowed := true, recurses := true, apart := false }
def PostRegionsSaid : Prop := postRegionsRow.holds Try.pinned (OpenSpec.ofChange postRegionsSpec)

/-- ITS FALSE NEIGHBOUR: 'it returns false'. Refute it at one input. -/
def postRegionsWrong : ChangeSpec := { name := "postRegions", fn := fun _ => fun
  | [d1, d2] => { results := [.lit (.bool false)], args := [d1, d2] }
  | _ => none }
def PostRegionsWrongFalsely : Prop := postRegionsRow.holds Try.pinned (OpenSpec.ofChange postRegionsWrong)

/-- 'interdictlaw12.PostMeets': WHATEVER THE INPUT: true; the input reads as it did. -/
def postMeetsSpec : ChangeSpec := { name := "postMeets", fn := fun _ => fun
  | [d1, d2] => { results := [.lit (.bool true)], args := [d1, d2] }
  | _ => none }
def postMeetsRow : OpenClaim := { program := "ytniojnnbenkbpaa", sum := "6a462c95c970b32bca474fef8be25061358d6d701645881f950a38a9db8c8438", func := "interdict/interdictlaw12.PostMeets", spec := "postMeets", unfollowed := true, recurses := true, apart := false }
def PostMeetsSaid : Prop := postMeetsRow.holds Try.pinned (OpenSpec.ofChange postMeetsSpec)

/-- ITS FALSE NEIGHBOUR: 'it returns false'. Refute it at one input. -/
def postMeetsWrong : ChangeSpec := { name := "postMeets", fn := fun _ => fun
  | [d1, d2] => { results := [.lit (.bool false)], args := [d1, d2] }
  | _ => none }
def PostMeetsWrongFalsely : Prop := postMeetsRow.holds Try.pinned (OpenSpec.ofChange postMeetsWrong)

/-- 'interdictlaw12.PostNests': WHATEVER THE INPUT: true; the input reads as it did. -/
def postNestsSpec : ChangeSpec := { name := "postNests", fn := fun _ => fun
  | [d] => { results := [.lit (.bool true)], args := [d] }
  | _ => none }
def postNestsRow : OpenClaim := { program := "ytniojnnbenkbpaa", sum := "6a462c95c970b32bca474fef8be25061358d6d701645881f950a38a9db8c8438", func := "interdict/interdictlaw12.PostNests", spec := "postNests", unfollowed := true, recurses := true, apart := false }
def PostNestsSaid : Prop := postNestsRow.holds Try.pinned (OpenSpec.ofChange postNestsSpec)

/-- ITS FALSE NEIGHBOUR: 'it returns false'. Refute it at one input. -/
def postNestsWrong : ChangeSpec := { name := "postNests", fn := fun _ => fun
  | [d] => { results := [.lit (.bool false)], args := [d] }
  | _ => none }
def PostNestsWrongFalsely : Prop := postNestsRow.holds Try.pinned (OpenSpec.ofChange postNestsWrong)

/-- 'interdictlaw12.PostStraight': WHATEVER THE INPUT: true; the input reads as it did. -/
def postStraightSpec : ChangeSpec := { name := "postStraight", fn := fun _ => fun
  | [d] => { results := [.lit (.bool true)], args := [d] }
  | _ => none }
def postStraightRow : OpenClaim := { program := "ytniojnnbenkbpaa", sum := "6a462c95c970b32bca474fef8be25061358d6d701645881f950a38a9db8c8438", func := "interdict/interdictlaw12.PostStraight", spec := "postStraight", unfollowed := true, recurses := true, apart := false }
def PostStraightSaid : Prop := postStraightRow.holds Try.pinned (OpenSpec.ofChange postStraightSpec)

/-- ITS FALSE NEIGHBOUR: 'it returns false'. Refute it at one input. -/
def postStraightWrong : ChangeSpec := { name := "postStraight", fn := fun _ => fun
  | [d] => { results := [.lit (.bool false)], args := [d] }
  | _ => none }
def PostStraightWrongFalsely : Prop := postStraightRow.holds Try.pinned (OpenSpec.ofChange postStraightWrong)

/-- 'interdictlaw12.PostWider': WHATEVER THE INPUT: true; the input reads as it did. -/
def postWiderSpec : ChangeSpec := { name := "postWider", fn := fun _ => fun
  | [d1, d2, d3] => { results := [.lit (.bool true)], args := [d1, d2, d3] }
  | _ => none }
def postWiderRow : OpenClaim := { program := "ytniojnnbenkbpaa", sum := "6a462c95c970b32bca474fef8be25061358d6d701645881f950a38a9db8c8438", func := "interdict/interdictlaw12.PostWider", spec := "postWider", unfollowed := true, recurses := true, apart := false }
def PostWiderSaid : Prop := postWiderRow.holds Try.pinned (OpenSpec.ofChange postWiderSpec)

/-- ITS FALSE NEIGHBOUR: 'it returns false'. Refute it at one input. -/
def postWiderWrong : ChangeSpec := { name := "postWider", fn := fun _ => fun
  | [d1, d2, d3] => { results := [.lit (.bool false)], args := [d1, d2, d3] }
  | _ => none }
def PostWiderWrongFalsely : Prop := postWiderRow.holds Try.pinned (OpenSpec.ofChange postWiderWrong)

/- THE SECOND FORM. 'bulk': how many values and letters a reading holds, each counted each time it is reached (what is shared counts as often as it is met; a slice's spare places count too). A statement '..UptoSaid' is the law's where the arguments, and the package variables that the reading takes, are together of bulk at most 1048576: NARROWER than '..Said'. Prove '..Said' where nothing that the law and all that it calls make is longer than what came in: it says more and counts as full. Else prove '..UptoSaid'. A law counts once. -/
mutual
def uptoBulk {H : Type} : DataW H → Nat
  | .lit (.string bytes) => bytes.length + 1
  | .lit _ => 1
  | .nil => 1
  | .ptr d => uptoBulk d + 1
  | .slice elems spare => uptoBulkAll elems + uptoBulkAll spare + 1
  | .agg parts => uptoBulkAll parts + 1
  | .iface _ d => uptoBulk d + 1
  | .map entries => uptoBulkEntries entries + 1
  | .held _ => 1
def uptoBulkAll {H : Type} : List (DataW H) → Nat
  | [] => 0
  | d :: r => uptoBulk d + uptoBulkAll r
def uptoBulkEntries {H : Type} : List (Lit × DataW H) → Nat
  | [] => 0
  | x :: r => uptoBulkEntry x + uptoBulkEntries r
def uptoBulkEntry {H : Type} : Lit × DataW H → Nat
  | (.string bytes, d) => bytes.length + uptoBulk d + 1
  | (_, d) => uptoBulk d + 1
 end
def uptoSmall : (H : Type) → List (DataW H) → Bool := fun _ ds => decide (uptoBulkAll ds ≤ 1048576)
def OpenSpec.upto (s : _root_.Go.ChangeSpec) : _root_.Go.OpenSpec := { _root_.Go.OpenSpec.ofChange s with cond := some uptoSmall }

/-- 'interdictlaw12.PostTrees', WHERE WHAT IT READS IS OF BULK AT MOST 1048576: true; the input reads as it did. -/
def postTreesUptoRow : OpenClaim := { program := "ytniojnnbenkbpaa", sum := "6a462c95c970b32bca474fef8be25061358d6d701645881f950a38a9db8c8438", func := "interdict/interdictlaw12.PostTrees", spec := "postTrees", unfollowed := true, recurses := true, apart := false, narrowed := true }
def PostTreesUptoSaid : Prop := postTreesUptoRow.holds Try.pinned (OpenSpec.upto postTreesSpec)

/-- 'interdictlaw12.PostRegions', WHERE WHAT IT READS IS OF BULK AT MOST 1048576: true; the input reads as it did. -/
def postRegionsUptoRow : OpenClaim := { program := "ytniojnnbenkbpaa", sum := "6a462c95c970b32bca474fef8be25061358d6d701645881f950a38a9db8c8438", func := "interdict/interdictlaw12.PostRegions", spec := "postRegions", unfollowed := true, recurses := true, apart := false, narrowed := true }
def PostRegionsUptoSaid : Prop := postRegionsUptoRow.holds Try.pinned (OpenSpec.upto postRegionsSpec)

/-- 'interdictlaw12.PostMeets', WHERE WHAT IT READS IS OF BULK AT MOST 1048576: true; the input reads as it did. -/
def postMeetsUptoRow : OpenClaim := { program := "ytniojnnbenkbpaa", sum := "6a462c95c970b32bca474fef8be25061358d6d701645881f950a38a9db8c8438", func := "interdict/interdictlaw12.PostMeets", spec := "postMeets", unfollowed := true, recurses := true, apart := false, narrowed := true }
def PostMeetsUptoSaid : Prop := postMeetsUptoRow.holds Try.pinned (OpenSpec.upto postMeetsSpec)

/-- 'interdictlaw12.PostNests', WHERE WHAT IT READS IS OF BULK AT MOST 1048576: true; the input reads as it did. -/
def postNestsUptoRow : OpenClaim := { program := "ytniojnnbenkbpaa", sum := "6a462c95c970b32bca474fef8be25061358d6d701645881f950a38a9db8c8438", func := "interdict/interdictlaw12.PostNests", spec := "postNests", unfollowed := true, recurses := true, apart := false, narrowed := true }
def PostNestsUptoSaid : Prop := postNestsUptoRow.holds Try.pinned (OpenSpec.upto postNestsSpec)

/-- 'interdictlaw12.PostStraight', WHERE WHAT IT READS IS OF BULK AT MOST 1048576: true; the input reads as it did. -/
def postStraightUptoRow : OpenClaim := { program := "ytniojnnbenkbpaa", sum := "6a462c95c970b32bca474fef8be25061358d6d701645881f950a38a9db8c8438", func := "interdict/interdictlaw12.PostStraight", spec := "postStraight", unfollowed := true, recurses := true, apart := false, narrowed := true }
def PostStraightUptoSaid : Prop := postStraightUptoRow.holds Try.pinned (OpenSpec.upto postStraightSpec)

/-- 'interdictlaw12.PostWider', WHERE WHAT IT READS IS OF BULK AT MOST 1048576: true; the input reads as it did. -/
def postWiderUptoRow : OpenClaim := { program := "ytniojnnbenkbpaa", sum := "6a462c95c970b32bca474fef8be25061358d6d701645881f950a38a9db8c8438", func := "interdict/interdictlaw12.PostWider", spec := "postWider", unfollowed := true, recurses := true, apart := false, narrowed := true }
def PostWiderUptoSaid : Prop := postWiderUptoRow.holds Try.pinned (OpenSpec.upto postWiderSpec)

end Rows
end Go.Proofs.Ytniojnnbenkbpaa
