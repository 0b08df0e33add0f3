/-
  No cell of these rows narrows 'for every input' (looked for: loops, veiled, ifaces, maps, wideKeys, modest, calm, conditions, laid).
  DERIVED. THE GIVEN ROWS OF THIS SEAT. 9 by the template 'for every input the law returns true; each argument reads behind the call as it read before'; 0 by the template 'total and deterministic' (their statements: YtefpmcbpodlabaaTotals.lean).
  GIVEN WITH THE SEED: the statements are not yours to turn. If you find one false, say at which input.
  Laid BY PROGRAM, IN A SANDBOX (cutbox-rows.mjs): the forced cells as the released guide's own fill.sh prints them over the translation 5494a9d971929122… (all of the seat's roots in one cut). By AI agents, Wed Nov 11 2026. No macro, syntax, notation, axiom, sorry.
-/
import Derived.Test.YtefpmcbpodlabaaChecked
import GoSem.Claim
import GoSem.ClaimJoined
import GoSem.ClaimMapViews
import Derived.JoinedTies
import Derived.KernelRfl
namespace Go.Proofs.Ytefpmcbpodlabaa
/- THE CELL 'sum', in the pinned program and in every row, IS THE sha256 OF THE DUMP (.gsa) THAT YtefpmcbpodlabaaProg.lean LOADS. Nothing in Lean hashes anything: it is a label: what it is worth is what the hold of that sum in a sandbox is worth. -/
noncomputable def Try.pinned : Pinned := { name := "ytefpmcbpodlabaa", sum := "5494a9d97192912262d1d1eb3e66c85b8ab29b317b685ade9d0ac605e158864a", checked := Try.checked }
namespace Rows
def none {H : Type} : Left H := { results := [], args := [] }

/-- 'cruciblelaw10.DepsLifts': WHATEVER THE INPUT: true; the input reads as it did. -/
def depsLiftsSpec : ChangeSpec := { name := "depsLifts", fn := fun _ => fun
  | [d1, d2] => { results := [.lit (.bool true)], args := [d1, d2] }
  | _ => none }
def depsLiftsRow : OpenClaim := { program := "ytefpmcbpodlabaa", sum := "5494a9d97192912262d1d1eb3e66c85b8ab29b317b685ade9d0ac605e158864a", func := "crucible/cruciblelaw10.DepsLifts", spec := "depsLifts", unfollowed := true, recurses := true, plainKeys := false, apart := false }
def DepsLiftsSaid : Prop := depsLiftsRow.holds Try.pinned (OpenSpec.ofChange depsLiftsSpec)

/-- ITS FALSE NEIGHBOUR: 'it returns false'. Refute it at one input. -/
def depsLiftsWrong : ChangeSpec := { name := "depsLifts", fn := fun _ => fun
  | [d1, d2] => { results := [.lit (.bool false)], args := [d1, d2] }
  | _ => none }
def DepsLiftsWrongFalsely : Prop := depsLiftsRow.holds Try.pinned (OpenSpec.ofChange depsLiftsWrong)

/-- 'cruciblelaw10.DepsEdges': WHATEVER THE INPUT: true; the input reads as it did. -/
def depsEdgesSpec : ChangeSpec := { name := "depsEdges", fn := fun _ => fun
  | [d1, d2] => { results := [.lit (.bool true)], args := [d1, d2] }
  | _ => none }
def depsEdgesRow : OpenClaim := { program := "ytefpmcbpodlabaa", sum := "5494a9d97192912262d1d1eb3e66c85b8ab29b317b685ade9d0ac605e158864a", func := "crucible/cruciblelaw10.DepsEdges", spec := "depsEdges", unfollowed := true, recurses := true, plainKeys := false, apart := false }
def DepsEdgesSaid : Prop := depsEdgesRow.holds Try.pinned (OpenSpec.ofChange depsEdgesSpec)

/-- ITS FALSE NEIGHBOUR: 'it returns false'. Refute it at one input. -/
def depsEdgesWrong : ChangeSpec := { name := "depsEdges", fn := fun _ => fun
  | [d1, d2] => { results := [.lit (.bool false)], args := [d1, d2] }
  | _ => none }
def DepsEdgesWrongFalsely : Prop := depsEdgesRow.holds Try.pinned (OpenSpec.ofChange depsEdgesWrong)

/-- 'cruciblelaw10.DepsKinds': WHATEVER THE INPUT: true; the input reads as it did. -/
def depsKindsSpec : ChangeSpec := { name := "depsKinds", fn := fun _ => fun
  | [d1, d2] => { results := [.lit (.bool true)], args := [d1, d2] }
  | _ => none }
def depsKindsRow : OpenClaim := { program := "ytefpmcbpodlabaa", sum := "5494a9d97192912262d1d1eb3e66c85b8ab29b317b685ade9d0ac605e158864a", func := "crucible/cruciblelaw10.DepsKinds", spec := "depsKinds", unfollowed := true, recurses := true, plainKeys := false, apart := false }
def DepsKindsSaid : Prop := depsKindsRow.holds Try.pinned (OpenSpec.ofChange depsKindsSpec)

/-- ITS FALSE NEIGHBOUR: 'it returns false'. Refute it at one input. -/
def depsKindsWrong : ChangeSpec := { name := "depsKinds", fn := fun _ => fun
  | [d1, d2] => { results := [.lit (.bool false)], args := [d1, d2] }
  | _ => none }
def DepsKindsWrongFalsely : Prop := depsKindsRow.holds Try.pinned (OpenSpec.ofChange depsKindsWrong)

/-- 'cruciblelaw10.DepsBroken': WHATEVER THE INPUT: true; the input reads as it did. -/
def depsBrokenSpec : ChangeSpec := { name := "depsBroken", fn := fun _ => fun
  | [d1, d2, d3] => { results := [.lit (.bool true)], args := [d1, d2, d3] }
  | _ => none }
def depsBrokenRow : OpenClaim := { program := "ytefpmcbpodlabaa", sum := "5494a9d97192912262d1d1eb3e66c85b8ab29b317b685ade9d0ac605e158864a", func := "crucible/cruciblelaw10.DepsBroken", spec := "depsBroken", unfollowed := true, recurses := true, plainKeys := false, apart := false }
def DepsBrokenSaid : Prop := depsBrokenRow.holds Try.pinned (OpenSpec.ofChange depsBrokenSpec)

/-- ITS FALSE NEIGHBOUR: 'it returns false'. Refute it at one input. -/
def depsBrokenWrong : ChangeSpec := { name := "depsBroken", fn := fun _ => fun
  | [d1, d2, d3] => { results := [.lit (.bool false)], args := [d1, d2, d3] }
  | _ => none }
def DepsBrokenWrongFalsely : Prop := depsBrokenRow.holds Try.pinned (OpenSpec.ofChange depsBrokenWrong)

/-- 'cruciblelaw10.DepsLevels': WHATEVER THE INPUT: true; the input reads as it did. -/
def depsLevelsSpec : ChangeSpec := { name := "depsLevels", fn := fun _ => fun
  | [d1, d2, d3] => { results := [.lit (.bool true)], args := [d1, d2, d3] }
  | _ => none }
def depsLevelsRow : OpenClaim := { program := "ytefpmcbpodlabaa", sum := "5494a9d97192912262d1d1eb3e66c85b8ab29b317b685ade9d0ac605e158864a", func := "crucible/cruciblelaw10.DepsLevels", spec := "depsLevels", unfollowed := true, recurses := true, plainKeys := false, apart := false }
def DepsLevelsSaid : Prop := depsLevelsRow.holds Try.pinned (OpenSpec.ofChange depsLevelsSpec)

/-- ITS FALSE NEIGHBOUR: 'it returns false'. Refute it at one input. -/
def depsLevelsWrong : ChangeSpec := { name := "depsLevels", fn := fun _ => fun
  | [d1, d2, d3] => { results := [.lit (.bool false)], args := [d1, d2, d3] }
  | _ => none }
def DepsLevelsWrongFalsely : Prop := depsLevelsRow.holds Try.pinned (OpenSpec.ofChange depsLevelsWrong)

/-- 'cruciblelaw10.DepsStays': WHATEVER THE INPUT: true; the input reads as it did. -/
def depsStaysSpec : ChangeSpec := { name := "depsStays", fn := fun _ => fun
  | [d1, d2, d3] => { results := [.lit (.bool true)], args := [d1, d2, d3] }
  | _ => none }
def depsStaysRow : OpenClaim := { program := "ytefpmcbpodlabaa", sum := "5494a9d97192912262d1d1eb3e66c85b8ab29b317b685ade9d0ac605e158864a", func := "crucible/cruciblelaw10.DepsStays", spec := "depsStays", unfollowed := true, recurses := true, plainKeys := false, apart := false }
def DepsStaysSaid : Prop := depsStaysRow.holds Try.pinned (OpenSpec.ofChange depsStaysSpec)

/-- ITS FALSE NEIGHBOUR: 'it returns false'. Refute it at one input. -/
def depsStaysWrong : ChangeSpec := { name := "depsStays", fn := fun _ => fun
  | [d1, d2, d3] => { results := [.lit (.bool false)], args := [d1, d2, d3] }
  | _ => none }
def DepsStaysWrongFalsely : Prop := depsStaysRow.holds Try.pinned (OpenSpec.ofChange depsStaysWrong)

/-- 'cruciblelaw09.ChainsOrders': WHATEVER THE INPUT: true; the input reads as it did. -/
def chainsOrdersSpec : ChangeSpec := { name := "chainsOrders", fn := fun _ => fun
  | [d1, d2, d3] => { results := [.lit (.bool true)], args := [d1, d2, d3] }
  | _ => none }
def chainsOrdersRow : OpenClaim := { program := "ytefpmcbpodlabaa", sum := "5494a9d97192912262d1d1eb3e66c85b8ab29b317b685ade9d0ac605e158864a", func := "crucible/cruciblelaw09.ChainsOrders", spec := "chainsOrders", unfollowed := true, recurses := true, plainKeys := false, apart := false }
def ChainsOrdersSaid : Prop := chainsOrdersRow.holds Try.pinned (OpenSpec.ofChange chainsOrdersSpec)

/-- ITS FALSE NEIGHBOUR: 'it returns false'. Refute it at one input. -/
def chainsOrdersWrong : ChangeSpec := { name := "chainsOrders", fn := fun _ => fun
  | [d1, d2, d3] => { results := [.lit (.bool false)], args := [d1, d2, d3] }
  | _ => none }
def ChainsOrdersWrongFalsely : Prop := chainsOrdersRow.holds Try.pinned (OpenSpec.ofChange chainsOrdersWrong)

/-- 'cruciblelaw09.ChainsAll': WHATEVER THE INPUT: true; the input reads as it did. -/
def chainsAllSpec : ChangeSpec := { name := "chainsAll", fn := fun _ => fun
  | [d1, d2] => { results := [.lit (.bool true)], args := [d1, d2] }
  | _ => none }
def chainsAllRow : OpenClaim := { program := "ytefpmcbpodlabaa", sum := "5494a9d97192912262d1d1eb3e66c85b8ab29b317b685ade9d0ac605e158864a", func := "crucible/cruciblelaw09.ChainsAll", spec := "chainsAll", unfollowed := true, recurses := true, plainKeys := false, apart := false }
def ChainsAllSaid : Prop := chainsAllRow.holds Try.pinned (OpenSpec.ofChange chainsAllSpec)

/-- ITS FALSE NEIGHBOUR: 'it returns false'. Refute it at one input. -/
def chainsAllWrong : ChangeSpec := { name := "chainsAll", fn := fun _ => fun
  | [d1, d2] => { results := [.lit (.bool false)], args := [d1, d2] }
  | _ => none }
def ChainsAllWrongFalsely : Prop := chainsAllRow.holds Try.pinned (OpenSpec.ofChange chainsAllWrong)

/-- 'cruciblelaw09.ChainsFixed': WHATEVER THE INPUT: true; the input reads as it did. -/
def chainsFixedSpec : ChangeSpec := { name := "chainsFixed", fn := fun _ => fun
  | [d1, d2, d3, d4] => { results := [.lit (.bool true)], args := [d1, d2, d3, d4] }
  | _ => none }
def chainsFixedRow : OpenClaim := { program := "ytefpmcbpodlabaa", sum := "5494a9d97192912262d1d1eb3e66c85b8ab29b317b685ade9d0ac605e158864a", func := "crucible/cruciblelaw09.ChainsFixed", spec := "chainsFixed", unfollowed := true, recurses := true, plainKeys := false, apart := false }
def ChainsFixedSaid : Prop := chainsFixedRow.holds Try.pinned (OpenSpec.ofChange chainsFixedSpec)

/-- ITS FALSE NEIGHBOUR: 'it returns false'. Refute it at one input. -/
def chainsFixedWrong : ChangeSpec := { name := "chainsFixed", fn := fun _ => fun
  | [d1, d2, d3, d4] => { results := [.lit (.bool false)], args := [d1, d2, d3, d4] }
  | _ => none }
def ChainsFixedWrongFalsely : Prop := chainsFixedRow.holds Try.pinned (OpenSpec.ofChange chainsFixedWrong)

/- THE SECOND FORM. 'bulk': how many values and letters a reading holds, each counted each time it is reached (what is shared counts as often as it is met; a slice's spare places count too). A statement '..UptoSaid' is the law's where the arguments, and the package variables that the reading takes, are together of bulk at most 1048576: NARROWER than '..Said'. Prove '..Said' where nothing that the law and all that it calls make is longer than what came in: it says more and counts as full. Else prove '..UptoSaid'. A law counts once. -/
mutual
def uptoBulk {H : Type} : DataW H → Nat
  | .lit (.string bytes) => bytes.length + 1
  | .lit _ => 1
  | .nil => 1
  | .ptr d => uptoBulk d + 1
  | .slice elems spare => uptoBulkAll elems + uptoBulkAll spare + 1
  | .agg parts => uptoBulkAll parts + 1
  | .iface _ d => uptoBulk d + 1
  | .map entries => uptoBulkEntries entries + 1
  | .held _ => 1
def uptoBulkAll {H : Type} : List (DataW H) → Nat
  | [] => 0
  | d :: r => uptoBulk d + uptoBulkAll r
def uptoBulkEntries {H : Type} : List (Lit × DataW H) → Nat
  | [] => 0
  | x :: r => uptoBulkEntry x + uptoBulkEntries r
def uptoBulkEntry {H : Type} : Lit × DataW H → Nat
  | (.string bytes, d) => bytes.length + uptoBulk d + 1
  | (_, d) => uptoBulk d + 1
 end
def uptoSmall : (H : Type) → List (DataW H) → Bool := fun _ ds => decide (uptoBulkAll ds ≤ 1048576)
def OpenSpec.upto (s : _root_.Go.ChangeSpec) : _root_.Go.OpenSpec := { _root_.Go.OpenSpec.ofChange s with cond := some uptoSmall }

/-- 'cruciblelaw10.DepsLifts', WHERE WHAT IT READS IS OF BULK AT MOST 1048576: true; the input reads as it did. -/
def depsLiftsUptoRow : OpenClaim := { program := "ytefpmcbpodlabaa", sum := "5494a9d97192912262d1d1eb3e66c85b8ab29b317b685ade9d0ac605e158864a", func := "crucible/cruciblelaw10.DepsLifts", spec := "depsLifts", unfollowed := true, recurses := true, plainKeys := false, apart := false, narrowed := true }
def DepsLiftsUptoSaid : Prop := depsLiftsUptoRow.holds Try.pinned (OpenSpec.upto depsLiftsSpec)

/-- 'cruciblelaw10.DepsEdges', WHERE WHAT IT READS IS OF BULK AT MOST 1048576: true; the input reads as it did. -/
def depsEdgesUptoRow : OpenClaim := { program := "ytefpmcbpodlabaa", sum := "5494a9d97192912262d1d1eb3e66c85b8ab29b317b685ade9d0ac605e158864a", func := "crucible/cruciblelaw10.DepsEdges", spec := "depsEdges", unfollowed := true, recurses := true, plainKeys := false, apart := false, narrowed := true }
def DepsEdgesUptoSaid : Prop := depsEdgesUptoRow.holds Try.pinned (OpenSpec.upto depsEdgesSpec)

/-- 'cruciblelaw10.DepsKinds', WHERE WHAT IT READS IS OF BULK AT MOST 1048576: true; the input reads as it did. -/
def depsKindsUptoRow : OpenClaim := { program := "ytefpmcbpodlabaa", sum := "5494a9d97192912262d1d1eb3e66c85b8ab29b317b685ade9d0ac605e158864a", func := "crucible/cruciblelaw10.DepsKinds", spec := "depsKinds", unfollowed := true, recurses := true, plainKeys := false, apart := false, narrowed := true }
def DepsKindsUptoSaid : Prop := depsKindsUptoRow.holds Try.pinned (OpenSpec.upto depsKindsSpec)

/-- 'cruciblelaw10.DepsBroken', WHERE WHAT IT READS IS OF BULK AT MOST 1048576: true; the input reads as it did. -/
def depsBrokenUptoRow : OpenClaim := { program := "ytefpmcbpodlabaa", sum := "5494a9d97192912262d1d1eb3e66c85b8ab29b317b685ade9d0ac605e158864a", func := "crucible/cruciblelaw10.DepsBroken", spec := "depsBroken", unfollowed := true, recurses := true, plainKeys := false, apart := false, narrowed := true }
def DepsBrokenUptoSaid : Prop := depsBrokenUptoRow.holds Try.pinned (OpenSpec.upto depsBrokenSpec)

/-- 'cruciblelaw10.DepsLevels', WHERE WHAT IT READS IS OF BULK AT MOST 1048576: true; the input reads as it did. -/
def depsLevelsUptoRow : OpenClaim := { program := "ytefpmcbpodlabaa", sum := "5494a9d97192912262d1d1eb3e66c85b8ab29b317b685ade9d0ac605e158864a", func := "crucible/cruciblelaw10.DepsLevels", spec := "depsLevels", unfollowed := true, recurses := true, plainKeys := false, apart := false, narrowed := true }
def DepsLevelsUptoSaid : Prop := depsLevelsUptoRow.holds Try.pinned (OpenSpec.upto depsLevelsSpec)

/-- 'cruciblelaw10.DepsStays', WHERE WHAT IT READS IS OF BULK AT MOST 1048576: true; the input reads as it did. -/
def depsStaysUptoRow : OpenClaim := { program := "ytefpmcbpodlabaa", sum := "5494a9d97192912262d1d1eb3e66c85b8ab29b317b685ade9d0ac605e158864a", func := "crucible/cruciblelaw10.DepsStays", spec := "depsStays", unfollowed := true, recurses := true, plainKeys := false, apart := false, narrowed := true }
def DepsStaysUptoSaid : Prop := depsStaysUptoRow.holds Try.pinned (OpenSpec.upto depsStaysSpec)

/-- 'cruciblelaw09.ChainsOrders', WHERE WHAT IT READS IS OF BULK AT MOST 1048576: true; the input reads as it did. -/
def chainsOrdersUptoRow : OpenClaim := { program := "ytefpmcbpodlabaa", sum := "5494a9d97192912262d1d1eb3e66c85b8ab29b317b685ade9d0ac605e158864a", func := "crucible/cruciblelaw09.ChainsOrders", spec := "chainsOrders", unfollowed := true, recurses := true, plainKeys := false, apart := false, narrowed := true }
def ChainsOrdersUptoSaid : Prop := chainsOrdersUptoRow.holds Try.pinned (OpenSpec.upto chainsOrdersSpec)

/-- 'cruciblelaw09.ChainsAll', WHERE WHAT IT READS IS OF BULK AT MOST 1048576: true; the input reads as it did. -/
def chainsAllUptoRow : OpenClaim := { program := "ytefpmcbpodlabaa", sum := "5494a9d97192912262d1d1eb3e66c85b8ab29b317b685ade9d0ac605e158864a", func := "crucible/cruciblelaw09.ChainsAll", spec := "chainsAll", unfollowed := true, recurses := true, plainKeys := false, apart := false, narrowed := true }
def ChainsAllUptoSaid : Prop := chainsAllUptoRow.holds Try.pinned (OpenSpec.upto chainsAllSpec)

/-- 'cruciblelaw09.ChainsFixed', WHERE WHAT IT READS IS OF BULK AT MOST 1048576: true; the input reads as it did. -/
def chainsFixedUptoRow : OpenClaim := { program := "ytefpmcbpodlabaa", sum := "5494a9d97192912262d1d1eb3e66c85b8ab29b317b685ade9d0ac605e158864a", func := "crucible/cruciblelaw09.ChainsFixed", spec := "chainsFixed", unfollowed := true, recurses := true, plainKeys := false, apart := false, narrowed := true }
def ChainsFixedUptoSaid : Prop := chainsFixedUptoRow.holds Try.pinned (OpenSpec.upto chainsFixedSpec)

end Rows
end Go.Proofs.Ytefpmcbpodlabaa
