/-
  No cell of these rows narrows 'for every input' (looked for: loops, veiled, ifaces, maps, wideKeys, modest, calm, conditions, laid).
  DERIVED. THE GIVEN ROWS OF THIS SEAT. 7 by the template 'for every input the law returns true; each argument reads behind the call as it read before'; 0 by the template 'total and deterministic' (their statements: YtdgopbgckdnncaaTotals.lean).
  GIVEN WITH THE SEED: the statements are not yours to turn. If you find one false, say at which input.
  Laid BY PROGRAM, IN A SANDBOX (cutbox-rows.mjs): the forced cells as the released guide's own fill.sh prints them over the translation fca0ac0df911e87a… (all of the seat's roots in one cut). By AI agents, Wed Nov 11 2026. No macro, syntax, notation, axiom, sorry.
-/
import Derived.Test.YtdgopbgckdnncaaChecked
import GoSem.Claim
import GoSem.ClaimJoined
import GoSem.ClaimMapViews
import Derived.JoinedTies
import Derived.KernelRfl
namespace Go.Proofs.Ytdgopbgckdnncaa
/- THE CELL 'sum', in the pinned program and in every row, IS THE sha256 OF THE DUMP (.gsa) THAT YtdgopbgckdnncaaProg.lean LOADS. Nothing in Lean hashes anything: it is a label: what it is worth is what the hold of that sum in a sandbox is worth. -/
noncomputable def Try.pinned : Pinned := { name := "ytdgopbgckdnncaa", sum := "fca0ac0df911e87a8b8975f0eb9efc5b19a3a9487638a3e6ddd095680a3eed84", checked := Try.checked }
namespace Rows
def none {H : Type} : Left H := { results := [], args := [] }

/-- 'interdictlaw10.GraphOrders': WHATEVER THE INPUT: true; the input reads as it did. -/
def graphOrdersSpec : ChangeSpec := { name := "graphOrders", fn := fun _ => fun
  | [d] => { results := [.lit (.bool true)], args := [d] }
  | _ => none }
def graphOrdersRow : OpenClaim := { program := "ytdgopbgckdnncaa", sum := "fca0ac0df911e87a8b8975f0eb9efc5b19a3a9487638a3e6ddd095680a3eed84", func := "interdict/interdictlaw10.GraphOrders", spec := "graphOrders", unfollowed := true, recurses := true, apart := false }
def GraphOrdersSaid : Prop := graphOrdersRow.holds Try.pinned (OpenSpec.ofChange graphOrdersSpec)

/-- ITS FALSE NEIGHBOUR: 'it returns false'. Refute it at one input. -/
def graphOrdersWrong : ChangeSpec := { name := "graphOrders", fn := fun _ => fun
  | [d] => { results := [.lit (.bool false)], args := [d] }
  | _ => none }
def GraphOrdersWrongFalsely : Prop := graphOrdersRow.holds Try.pinned (OpenSpec.ofChange graphOrdersWrong)

/-- 'interdictlaw10.GraphRights': WHATEVER THE INPUT: true; the input reads as it did. -/
def graphRightsSpec : ChangeSpec := { name := "graphRights", fn := fun _ => fun
  | [d1, d2] => { results := [.lit (.bool true)], args := [d1, d2] }
  | _ => none }
def graphRightsRow : OpenClaim := { program := "ytdgopbgckdnncaa", sum := "fca0ac0df911e87a8b8975f0eb9efc5b19a3a9487638a3e6ddd095680a3eed84", func := "interdict/interdictlaw10.GraphRights", spec := "graphRights", unfollowed := true, recurses := true, apart := false }
def GraphRightsSaid : Prop := graphRightsRow.holds Try.pinned (OpenSpec.ofChange graphRightsSpec)

/-- ITS FALSE NEIGHBOUR: 'it returns false'. Refute it at one input. -/
def graphRightsWrong : ChangeSpec := { name := "graphRights", fn := fun _ => fun
  | [d1, d2] => { results := [.lit (.bool false)], args := [d1, d2] }
  | _ => none }
def GraphRightsWrongFalsely : Prop := graphRightsRow.holds Try.pinned (OpenSpec.ofChange graphRightsWrong)

/-- 'interdictlaw10.GraphTurned': WHATEVER THE INPUT: true; the input reads as it did. -/
def graphTurnedSpec : ChangeSpec := { name := "graphTurned", fn := fun _ => fun
  | [d1, d2, d3] => { results := [.lit (.bool true)], args := [d1, d2, d3] }
  | _ => none }
def graphTurnedRow : OpenClaim := { program := "ytdgopbgckdnncaa", sum := "fca0ac0df911e87a8b8975f0eb9efc5b19a3a9487638a3e6ddd095680a3eed84", func := "interdict/interdictlaw10.GraphTurned", spec := "graphTurned", unfollowed := true, recurses := true, apart := false }
def GraphTurnedSaid : Prop := graphTurnedRow.holds Try.pinned (OpenSpec.ofChange graphTurnedSpec)

/-- ITS FALSE NEIGHBOUR: 'it returns false'. Refute it at one input. -/
def graphTurnedWrong : ChangeSpec := { name := "graphTurned", fn := fun _ => fun
  | [d1, d2, d3] => { results := [.lit (.bool false)], args := [d1, d2, d3] }
  | _ => none }
def GraphTurnedWrongFalsely : Prop := graphTurnedRow.holds Try.pinned (OpenSpec.ofChange graphTurnedWrong)

/-- 'interdictlaw10.GraphAhead': WHATEVER THE INPUT: true; the input reads as it did. -/
def graphAheadSpec : ChangeSpec := { name := "graphAhead", fn := fun _ => fun
  | [d] => { results := [.lit (.bool true)], args := [d] }
  | _ => none }
def graphAheadRow : OpenClaim := { program := "ytdgopbgckdnncaa", sum := "fca0ac0df911e87a8b8975f0eb9efc5b19a3a9487638a3e6ddd095680a3eed84", func := "interdict/interdictlaw10.GraphAhead", spec := "graphAhead", unfollowed := true, recurses := true, apart := false }
def GraphAheadSaid : Prop := graphAheadRow.holds Try.pinned (OpenSpec.ofChange graphAheadSpec)

/-- ITS FALSE NEIGHBOUR: 'it returns false'. Refute it at one input. -/
def graphAheadWrong : ChangeSpec := { name := "graphAhead", fn := fun _ => fun
  | [d] => { results := [.lit (.bool false)], args := [d] }
  | _ => none }
def GraphAheadWrongFalsely : Prop := graphAheadRow.holds Try.pinned (OpenSpec.ofChange graphAheadWrong)

/-- 'interdictlaw10.GraphWays': WHATEVER THE INPUT: true; the input reads as it did. -/
def graphWaysSpec : ChangeSpec := { name := "graphWays", fn := fun _ => fun
  | [d1, d2] => { results := [.lit (.bool true)], args := [d1, d2] }
  | _ => none }
def graphWaysRow : OpenClaim := { program := "ytdgopbgckdnncaa", sum := "fca0ac0df911e87a8b8975f0eb9efc5b19a3a9487638a3e6ddd095680a3eed84", func := "interdict/interdictlaw10.GraphWays", spec := "graphWays", unfollowed := true, recurses := true, apart := false }
def GraphWaysSaid : Prop := graphWaysRow.holds Try.pinned (OpenSpec.ofChange graphWaysSpec)

/-- ITS FALSE NEIGHBOUR: 'it returns false'. Refute it at one input. -/
def graphWaysWrong : ChangeSpec := { name := "graphWays", fn := fun _ => fun
  | [d1, d2] => { results := [.lit (.bool false)], args := [d1, d2] }
  | _ => none }
def GraphWaysWrongFalsely : Prop := graphWaysRow.holds Try.pinned (OpenSpec.ofChange graphWaysWrong)

/-- 'interdictlaw10.GraphOf': WHATEVER THE INPUT: true; the input reads as it did. -/
def graphOfSpec : ChangeSpec := { name := "graphOf", fn := fun _ => fun
  | [d] => { results := [.lit (.bool true)], args := [d] }
  | _ => none }
def graphOfRow : OpenClaim := { program := "ytdgopbgckdnncaa", sum := "fca0ac0df911e87a8b8975f0eb9efc5b19a3a9487638a3e6ddd095680a3eed84", func := "interdict/interdictlaw10.GraphOf", spec := "graphOf", unfollowed := true, recurses := true, apart := false }
def GraphOfSaid : Prop := graphOfRow.holds Try.pinned (OpenSpec.ofChange graphOfSpec)

/-- ITS FALSE NEIGHBOUR: 'it returns false'. Refute it at one input. -/
def graphOfWrong : ChangeSpec := { name := "graphOf", fn := fun _ => fun
  | [d] => { results := [.lit (.bool false)], args := [d] }
  | _ => none }
def GraphOfWrongFalsely : Prop := graphOfRow.holds Try.pinned (OpenSpec.ofChange graphOfWrong)

/-- 'interdictlaw10.GraphEnds': WHATEVER THE INPUT: true; the input reads as it did. -/
def graphEndsSpec : ChangeSpec := { name := "graphEnds", fn := fun _ => fun
  | [d] => { results := [.lit (.bool true)], args := [d] }
  | _ => none }
def graphEndsRow : OpenClaim := { program := "ytdgopbgckdnncaa", sum := "fca0ac0df911e87a8b8975f0eb9efc5b19a3a9487638a3e6ddd095680a3eed84", func := "interdict/interdictlaw10.GraphEnds", spec := "graphEnds", unfollowed := true, recurses := true, apart := false }
def GraphEndsSaid : Prop := graphEndsRow.holds Try.pinned (OpenSpec.ofChange graphEndsSpec)

/-- ITS FALSE NEIGHBOUR: 'it returns false'. Refute it at one input. -/
def graphEndsWrong : ChangeSpec := { name := "graphEnds", fn := fun _ => fun
  | [d] => { results := [.lit (.bool false)], args := [d] }
  | _ => none }
def GraphEndsWrongFalsely : Prop := graphEndsRow.holds Try.pinned (OpenSpec.ofChange graphEndsWrong)

/- THE SECOND FORM. 'bulk': how many values and letters a reading holds, each counted each time it is reached (what is shared counts as often as it is met; a slice's spare places count too). A statement '..UptoSaid' is the law's where the arguments, and the package variables that the reading takes, are together of bulk at most 1048576: NARROWER than '..Said'. Prove '..Said' where nothing that the law and all that it calls make is longer than what came in: it says more and counts as full. Else prove '..UptoSaid'. A law counts once. -/
mutual
def uptoBulk {H : Type} : DataW H → Nat
  | .lit (.string bytes) => bytes.length + 1
  | .lit _ => 1
  | .nil => 1
  | .ptr d => uptoBulk d + 1
  | .slice elems spare => uptoBulkAll elems + uptoBulkAll spare + 1
  | .agg parts => uptoBulkAll parts + 1
  | .iface _ d => uptoBulk d + 1
  | .map entries => uptoBulkEntries entries + 1
  | .held _ => 1
def uptoBulkAll {H : Type} : List (DataW H) → Nat
  | [] => 0
  | d :: r => uptoBulk d + uptoBulkAll r
def uptoBulkEntries {H : Type} : List (Lit × DataW H) → Nat
  | [] => 0
  | x :: r => uptoBulkEntry x + uptoBulkEntries r
def uptoBulkEntry {H : Type} : Lit × DataW H → Nat
  | (.string bytes, d) => bytes.length + uptoBulk d + 1
  | (_, d) => uptoBulk d + 1
 end
def uptoSmall : (H : Type) → List (DataW H) → Bool := fun _ ds => decide (uptoBulkAll ds ≤ 1048576)
def OpenSpec.upto (s : _root_.Go.ChangeSpec) : _root_.Go.OpenSpec := { _root_.Go.OpenSpec.ofChange s with cond := some uptoSmall }

/-- 'interdictlaw10.GraphOrders', WHERE WHAT IT READS IS OF BULK AT MOST 1048576: true; the input reads as it did. -/
def graphOrdersUptoRow : OpenClaim := { program := "ytdgopbgckdnncaa", sum := "fca0ac0df911e87a8b8975f0eb9efc5b19a3a9487638a3e6ddd095680a3eed84", func := "interdict/interdictlaw10.GraphOrders", spec := "graphOrders", unfollowed := true, recurses := true, apart := false, narrowed := true }
def GraphOrdersUptoSaid : Prop := graphOrdersUptoRow.holds Try.pinned (OpenSpec.upto graphOrdersSpec)

/-- 'interdictlaw10.GraphRights', WHERE WHAT IT READS IS OF BULK AT MOST 1048576: true; the input reads as it did. -/
def graphRightsUptoRow : OpenClaim := { program := "ytdgopbgckdnncaa", sum := "fca0ac0df911e87a8b8975f0eb9efc5b19a3a9487638a3e6ddd095680a3eed84", func := "interdict/interdictlaw10.GraphRights", spec := "graphRights", unfollowed := true, recurses := true, apart := false, narrowed := true }
def GraphRightsUptoSaid : Prop := graphRightsUptoRow.holds Try.pinned (OpenSpec.upto graphRightsSpec)

/-- 'interdictlaw10.GraphTurned', WHERE WHAT IT READS IS OF BULK AT MOST 1048576: true; the input reads as it did. -/
def graphTurnedUptoRow : OpenClaim := { program := "ytdgopbgckdnncaa", sum := "fca0ac0df911e87a8b8975f0eb9efc5b19a3a9487638a3e6ddd095680a3eed84", func := "interdict/interdictlaw10.GraphTurned", spec := "graphTurned", unfollowed := true, recurses := true, apart := false, narrowed := true }
def GraphTurnedUptoSaid : Prop := graphTurnedUptoRow.holds Try.pinned (OpenSpec.upto graphTurnedSpec)

/-- 'interdictlaw10.GraphAhead', WHERE WHAT IT READS IS OF BULK AT MOST 1048576: true; the input reads as it did. -/
def graphAheadUptoRow : OpenClaim := { program := "ytdgopbgckdnncaa", sum := "fca0ac0df911e87a8b8975f0eb9efc5b19a3a9487638a3e6ddd095680a3eed84", func := "interdict/interdictlaw10.GraphAhead", spec := "graphAhead", unfollowed := true, recurses := true, apart := false, narrowed := true }
def GraphAheadUptoSaid : Prop := graphAheadUptoRow.holds Try.pinned (OpenSpec.upto graphAheadSpec)

/-- 'interdictlaw10.GraphWays', WHERE WHAT IT READS IS OF BULK AT MOST 1048576: true; the input reads as it did. -/
def graphWaysUptoRow : OpenClaim := { program := "ytdgopbgckdnncaa", sum := "fca0ac0df911e87a8b8975f0eb9efc5b19a3a9487638a3e6ddd095680a3eed84", func := "interdict/interdictlaw10.GraphWays", spec := "graphWays", unfollowed := true, recurses := true, apart := false, narrowed := true }
def GraphWaysUptoSaid : Prop := graphWaysUptoRow.holds Try.pinned (OpenSpec.upto graphWaysSpec)

/-- 'interdictlaw10.GraphOf', WHERE WHAT IT READS IS OF BULK AT MOST 1048576: true; the input reads as it did. -/
def graphOfUptoRow : OpenClaim := { program := "ytdgopbgckdnncaa", sum := "fca0ac0df911e87a8b8975f0eb9efc5b19a3a9487638a3e6ddd095680a3eed84", func := "interdict/interdictlaw10.GraphOf", spec := "graphOf", unfollowed := true, recurses := true, apart := false, narrowed := true }
def GraphOfUptoSaid : Prop := graphOfUptoRow.holds Try.pinned (OpenSpec.upto graphOfSpec)

/-- 'interdictlaw10.GraphEnds', WHERE WHAT IT READS IS OF BULK AT MOST 1048576: true; the input reads as it did. -/
def graphEndsUptoRow : OpenClaim := { program := "ytdgopbgckdnncaa", sum := "fca0ac0df911e87a8b8975f0eb9efc5b19a3a9487638a3e6ddd095680a3eed84", func := "interdict/interdictlaw10.GraphEnds", spec := "graphEnds", unfollowed := true, recurses := true, apart := false, narrowed := true }
def GraphEndsUptoSaid : Prop := graphEndsUptoRow.holds Try.pinned (OpenSpec.upto graphEndsSpec)

end Rows
end Go.Proofs.Ytdgopbgckdnncaa
