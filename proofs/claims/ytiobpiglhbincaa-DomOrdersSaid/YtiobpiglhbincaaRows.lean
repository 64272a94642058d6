/-
  No cell of these rows narrows 'for every input' (looked for: loops, veiled, ifaces, maps, wideKeys, modest, calm, conditions, laid).
  DERIVED. THE GIVEN ROWS OF THIS SEAT. 5 by the template 'for every input the law returns true; each argument reads behind the call as it read before'; 0 by the template 'total and deterministic' (their statements: YtiobpiglhbincaaTotals.lean).
  GIVEN WITH THE SEED: the statements are not yours to turn. If you find one false, say at which input.
  Laid BY PROGRAM, IN A SANDBOX (cutbox-rows.mjs): the forced cells as the released guide's own fill.sh prints them over the translation 39bf1b9b5d1a6e22… (all of the seat's roots in one cut). By AI agents, Wed Nov 11 2026. No macro, syntax, notation, axiom, sorry.
-/
import Derived.Test.YtiobpiglhbincaaChecked
import GoSem.Claim
import GoSem.ClaimJoined
import GoSem.ClaimMapViews
import Derived.JoinedTies
import Derived.KernelRfl
namespace Go.Proofs.Ytiobpiglhbincaa
/- THE CELL 'sum', in the pinned program and in every row, IS THE sha256 OF THE DUMP (.gsa) THAT YtiobpiglhbincaaProg.lean LOADS. Nothing in Lean hashes anything: it is a label: what it is worth is what the hold of that sum in a sandbox is worth. -/
noncomputable def Try.pinned : Pinned := { name := "ytiobpiglhbincaa", sum := "39bf1b9b5d1a6e22f024184af66fab49aa86fec370c14fb05c35151224af6512", checked := Try.checked }
namespace Rows
def none {H : Type} : Left H := { results := [], args := [] }

/-- 'interdictlaw11.DomTrees': WHATEVER THE INPUT: true; the input reads as it did. -/
def domTreesSpec : ChangeSpec := { name := "domTrees", fn := fun _ => fun
  | [d] => { results := [.lit (.bool true)], args := [d] }
  | _ => none }
def domTreesRow : OpenClaim := { program := "ytiobpiglhbincaa", sum := "39bf1b9b5d1a6e22f024184af66fab49aa86fec370c14fb05c35151224af6512", func := "interdict/interdictlaw11.DomTrees", spec := "domTrees", unfollowed := true, recurses := true, apart := false }
def DomTreesSaid : Prop := domTreesRow.holds Try.pinned (OpenSpec.ofChange domTreesSpec)

/-- ITS FALSE NEIGHBOUR: 'it returns false'. Refute it at one input. -/
def domTreesWrong : ChangeSpec := { name := "domTrees", fn := fun _ => fun
  | [d] => { results := [.lit (.bool false)], args := [d] }
  | _ => none }
def DomTreesWrongFalsely : Prop := domTreesRow.holds Try.pinned (OpenSpec.ofChange domTreesWrong)

/-- 'interdictlaw11.DomWays': WHATEVER THE INPUT: true; the input reads as it did. -/
def domWaysSpec : ChangeSpec := { name := "domWays", fn := fun _ => fun
  | [d1, d2, d3] => { results := [.lit (.bool true)], args := [d1, d2, d3] }
  | _ => none }
def domWaysRow : OpenClaim := { program := "ytiobpiglhbincaa", sum := "39bf1b9b5d1a6e22f024184af66fab49aa86fec370c14fb05c35151224af6512", func := "interdict/interdictlaw11.DomWays", spec := "domWays", unfollowed := true, recurses := true, apart := false }
def DomWaysSaid : Prop := domWaysRow.holds Try.pinned (OpenSpec.ofChange domWaysSpec)

/-- ITS FALSE NEIGHBOUR: 'it returns false'. Refute it at one input. -/
def domWaysWrong : ChangeSpec := { name := "domWays", fn := fun _ => fun
  | [d1, d2, d3] => { results := [.lit (.bool false)], args := [d1, d2, d3] }
  | _ => none }
def DomWaysWrongFalsely : Prop := domWaysRow.holds Try.pinned (OpenSpec.ofChange domWaysWrong)

/-- 'interdictlaw11.DomOrders': WHATEVER THE INPUT: true; the input reads as it did. -/
def domOrdersSpec : ChangeSpec := { name := "domOrders", fn := fun _ => fun
  | [d] => { results := [.lit (.bool true)], args := [d] }
  | _ => none }
def domOrdersRow : OpenClaim := { program := "ytiobpiglhbincaa", sum := "39bf1b9b5d1a6e22f024184af66fab49aa86fec370c14fb05c35151224af6512", func := "interdict/interdictlaw11.DomOrders", spec := "domOrders", unfollowed := true, recurses := true, apart := false }
def DomOrdersSaid : Prop := domOrdersRow.holds Try.pinned (OpenSpec.ofChange domOrdersSpec)

/-- ITS FALSE NEIGHBOUR: 'it returns false'. Refute it at one input. -/
def domOrdersWrong : ChangeSpec := { name := "domOrders", fn := fun _ => fun
  | [d] => { results := [.lit (.bool false)], args := [d] }
  | _ => none }
def DomOrdersWrongFalsely : Prop := domOrdersRow.holds Try.pinned (OpenSpec.ofChange domOrdersWrong)

/-- 'interdictlaw11.DomChains': WHATEVER THE INPUT: true; the input reads as it did. -/
def domChainsSpec : ChangeSpec := { name := "domChains", fn := fun _ => fun
  | [d1, d2, d3] => { results := [.lit (.bool true)], args := [d1, d2, d3] }
  | _ => none }
def domChainsRow : OpenClaim := { program := "ytiobpiglhbincaa", sum := "39bf1b9b5d1a6e22f024184af66fab49aa86fec370c14fb05c35151224af6512", func := "interdict/interdictlaw11.DomChains", spec := "domChains", unfollowed := true, recurses := true, apart := false }
def DomChainsSaid : Prop := domChainsRow.holds Try.pinned (OpenSpec.ofChange domChainsSpec)

/-- ITS FALSE NEIGHBOUR: 'it returns false'. Refute it at one input. -/
def domChainsWrong : ChangeSpec := { name := "domChains", fn := fun _ => fun
  | [d1, d2, d3] => { results := [.lit (.bool false)], args := [d1, d2, d3] }
  | _ => none }
def DomChainsWrongFalsely : Prop := domChainsRow.holds Try.pinned (OpenSpec.ofChange domChainsWrong)

/-- 'interdictlaw11.DomEdges': WHATEVER THE INPUT: true; the input reads as it did. -/
def domEdgesSpec : ChangeSpec := { name := "domEdges", fn := fun _ => fun
  | [d] => { results := [.lit (.bool true)], args := [d] }
  | _ => none }
def domEdgesRow : OpenClaim := { program := "ytiobpiglhbincaa", sum := "39bf1b9b5d1a6e22f024184af66fab49aa86fec370c14fb05c35151224af6512", func := "interdict/interdictlaw11.DomEdges", spec := "domEdges", unfollowed := true, recurses := true, apart := false }
def DomEdgesSaid : Prop := domEdgesRow.holds Try.pinned (OpenSpec.ofChange domEdgesSpec)

/-- ITS FALSE NEIGHBOUR: 'it returns false'. Refute it at one input. -/
def domEdgesWrong : ChangeSpec := { name := "domEdges", fn := fun _ => fun
  | [d] => { results := [.lit (.bool false)], args := [d] }
  | _ => none }
def DomEdgesWrongFalsely : Prop := domEdgesRow.holds Try.pinned (OpenSpec.ofChange domEdgesWrong)

/- THE SECOND FORM. 'bulk': how many values and letters a reading holds, each counted each time it is reached (what is shared counts as often as it is met; a slice's spare places count too). A statement '..UptoSaid' is the law's where the arguments, and the package variables that the reading takes, are together of bulk at most 1048576: NARROWER than '..Said'. Prove '..Said' where nothing that the law and all that it calls make is longer than what came in: it says more and counts as full. Else prove '..UptoSaid'. A law counts once. -/
mutual
def uptoBulk {H : Type} : DataW H → Nat
  | .lit (.string bytes) => bytes.length + 1
  | .lit _ => 1
  | .nil => 1
  | .ptr d => uptoBulk d + 1
  | .slice elems spare => uptoBulkAll elems + uptoBulkAll spare + 1
  | .agg parts => uptoBulkAll parts + 1
  | .iface _ d => uptoBulk d + 1
  | .map entries => uptoBulkEntries entries + 1
  | .held _ => 1
def uptoBulkAll {H : Type} : List (DataW H) → Nat
  | [] => 0
  | d :: r => uptoBulk d + uptoBulkAll r
def uptoBulkEntries {H : Type} : List (Lit × DataW H) → Nat
  | [] => 0
  | x :: r => uptoBulkEntry x + uptoBulkEntries r
def uptoBulkEntry {H : Type} : Lit × DataW H → Nat
  | (.string bytes, d) => bytes.length + uptoBulk d + 1
  | (_, d) => uptoBulk d + 1
 end
def uptoSmall : (H : Type) → List (DataW H) → Bool := fun _ ds => decide (uptoBulkAll ds ≤ 1048576)
def OpenSpec.upto (s : _root_.Go.ChangeSpec) : _root_.Go.OpenSpec := { _root_.Go.OpenSpec.ofChange s with cond := some uptoSmall }

/-- 'interdictlaw11.DomTrees', WHERE WHAT IT READS IS OF BULK AT MOST 1048576: true; the input reads as it did. -/
def domTreesUptoRow : OpenClaim := { program := "ytiobpiglhbincaa", sum := "39bf1b9b5d1a6e22f024184af66fab49aa86fec370c14fb05c35151224af6512", func := "interdict/interdictlaw11.DomTrees", spec := "domTrees", unfollowed := true, recurses := true, apart := false, narrowed := true }
def DomTreesUptoSaid : Prop := domTreesUptoRow.holds Try.pinned (OpenSpec.upto domTreesSpec)

/-- 'interdictlaw11.DomWays', WHERE WHAT IT READS IS OF BULK AT MOST 1048576: true; the input reads as it did. -/
def domWaysUptoRow : OpenClaim := { program := "ytiobpiglhbincaa", sum := "39bf1b9b5d1a6e22f024184af66fab49aa86fec370c14fb05c35151224af6512", func := "interdict/interdictlaw11.DomWays", spec := "domWays", unfollowed := true, recurses := true, apart := false, narrowed := true }
def DomWaysUptoSaid : Prop := domWaysUptoRow.holds Try.pinned (OpenSpec.upto domWaysSpec)

/-- 'interdictlaw11.DomOrders', WHERE WHAT IT READS IS OF BULK AT MOST 1048576: true; the input reads as it did. -/
def domOrdersUptoRow : OpenClaim := { program := "ytiobpiglhbincaa", sum := "39bf1b9b5d1a6e22f024184af66fab49aa86fec370c14fb05c35151224af6512", func := "interdict/interdictlaw11.DomOrders", spec := "domOrders", unfollowed := true, recurses := true, apart := false, narrowed := true }
def DomOrdersUptoSaid : Prop := domOrdersUptoRow.holds Try.pinned (OpenSpec.upto domOrdersSpec)

/-- 'interdictlaw11.DomChains', WHERE WHAT IT READS IS OF BULK AT MOST 1048576: true; the input reads as it did. -/
def domChainsUptoRow : OpenClaim := { program := "ytiobpiglhbincaa", sum := "39bf1b9b5d1a6e22f024184af66fab49aa86fec370c14fb05c35151224af6512", func := "interdict/interdictlaw11.DomChains", spec := "domChains", unfollowed := true, recurses := true, apart := false, narrowed := true }
def DomChainsUptoSaid : Prop := domChainsUptoRow.holds Try.pinned (OpenSpec.upto domChainsSpec)

/-- 'interdictlaw11.DomEdges', WHERE WHAT IT READS IS OF BULK AT MOST 1048576: true; the input reads as it did. -/
def domEdgesUptoRow : OpenClaim := { program := "ytiobpiglhbincaa", sum := "39bf1b9b5d1a6e22f024184af66fab49aa86fec370c14fb05c35151224af6512", func := "interdict/interdictlaw11.DomEdges", spec := "domEdges", unfollowed := true, recurses := true, apart := false, narrowed := true }
def DomEdgesUptoSaid : Prop := domEdgesUptoRow.holds Try.pinned (OpenSpec.upto domEdgesSpec)

end Rows
end Go.Proofs.Ytiobpiglhbincaa
