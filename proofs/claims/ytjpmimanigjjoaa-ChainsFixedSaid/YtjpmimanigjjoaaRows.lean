/-
  No cell of these rows narrows 'for every input' (looked for: loops, veiled, ifaces, maps, wideKeys, modest, calm, conditions, laid).
  DERIVED. THE GIVEN ROWS OF THIS SEAT. 5 by the template 'for every input the law returns true; each argument reads behind the call as it read before'; 0 by the template 'total and deterministic' (their statements: YtjpmimanigjjoaaTotals.lean).
  GIVEN WITH THE SEED: the statements are not yours to turn. If you find one false, say at which input.
  Laid BY PROGRAM, IN A SANDBOX (cutbox-rows.mjs): the forced cells as the released guide's own fill.sh prints them over the translation 3ba82872c5942c6d… (all of the seat's roots in one cut). By AI agents, Wed Nov 11 2026. No macro, syntax, notation, axiom, sorry.
-/
import Derived.Test.YtjpmimanigjjoaaChecked
import GoSem.Claim
import GoSem.ClaimJoined
import GoSem.ClaimMapViews
import Derived.JoinedTies
import Derived.KernelRfl
namespace Go.Proofs.Ytjpmimanigjjoaa
/- THE CELL 'sum', in the pinned program and in every row, IS THE sha256 OF THE DUMP (.gsa) THAT YtjpmimanigjjoaaProg.lean LOADS. Nothing in Lean hashes anything: it is a label: what it is worth is what the hold of that sum in a sandbox is worth. -/
noncomputable def Try.pinned : Pinned := { name := "ytjpmimanigjjoaa", sum := "3ba82872c5942c6d0d2e817a99da3578ed26f029b007bec59bdecbf867a9d5fd", checked := Try.checked }
namespace Rows
def none {H : Type} : Left H := { results := [], args := [] }

/-- 'cruciblelaw09.ChainsOrders': WHATEVER THE INPUT: true; the input reads as it did. -/
def chainsOrdersSpec : ChangeSpec := { name := "chainsOrders", fn := fun _ => fun
  | [d1, d2, d3] => { results := [.lit (.bool true)], args := [d1, d2, d3] }
  | _ => none }
def chainsOrdersRow : OpenClaim := { program := "ytjpmimanigjjoaa", sum := "3ba82872c5942c6d0d2e817a99da3578ed26f029b007bec59bdecbf867a9d5fd", func := "crucible/cruciblelaw09.ChainsOrders", spec := "chainsOrders", unfollowed := true, recurses := true, plainKeys := false, apart := false }
def ChainsOrdersSaid : Prop := chainsOrdersRow.holds Try.pinned (OpenSpec.ofChange chainsOrdersSpec)

/-- ITS FALSE NEIGHBOUR: 'it returns false'. Refute it at one input. -/
def chainsOrdersWrong : ChangeSpec := { name := "chainsOrders", fn := fun _ => fun
  | [d1, d2, d3] => { results := [.lit (.bool false)], args := [d1, d2, d3] }
  | _ => none }
def ChainsOrdersWrongFalsely : Prop := chainsOrdersRow.holds Try.pinned (OpenSpec.ofChange chainsOrdersWrong)

/-- 'cruciblelaw09.ChainsAll': WHATEVER THE INPUT: true; the input reads as it did. -/
def chainsAllSpec : ChangeSpec := { name := "chainsAll", fn := fun _ => fun
  | [d1, d2] => { results := [.lit (.bool true)], args := [d1, d2] }
  | _ => none }
def chainsAllRow : OpenClaim := { program := "ytjpmimanigjjoaa", sum := "3ba82872c5942c6d0d2e817a99da3578ed26f029b007bec59bdecbf867a9d5fd", func := "crucible/cruciblelaw09.ChainsAll", spec := "chainsAll", unfollowed := true, recurses := true, plainKeys := false, apart := false }
def ChainsAllSaid : Prop := chainsAllRow.holds Try.pinned (OpenSpec.ofChange chainsAllSpec)

/-- ITS FALSE NEIGHBOUR: 'it returns false'. Refute it at one input. -/
def chainsAllWrong : ChangeSpec := { name := "chainsAll", fn := fun _ => fun
  | [d1, d2] => { results := [.lit (.bool false)], args := [d1, d2] }
  | _ => none }
def ChainsAllWrongFalsely : Prop := chainsAllRow.holds Try.pinned (OpenSpec.ofChange chainsAllWrong)

/-- 'cruciblelaw09.ChainsFixed': WHATEVER THE INPUT: true; the input reads as it did. -/
def chainsFixedSpec : ChangeSpec := { name := "chainsFixed", fn := fun _ => fun
  | [d1, d2, d3, d4] => { results := [.lit (.bool true)], args := [d1, d2, d3, d4] }
  | _ => none }
def chainsFixedRow : OpenClaim := { program := "ytjpmimanigjjoaa", sum := "3ba82872c5942c6d0d2e817a99da3578ed26f029b007bec59bdecbf867a9d5fd", func := "crucible/cruciblelaw09.ChainsFixed", spec := "chainsFixed", unfollowed := true, recurses := true, plainKeys := false, apart := false }
def ChainsFixedSaid : Prop := chainsFixedRow.holds Try.pinned (OpenSpec.ofChange chainsFixedSpec)

/-- ITS FALSE NEIGHBOUR: 'it returns false'. Refute it at one input. -/
def chainsFixedWrong : ChangeSpec := { name := "chainsFixed", fn := fun _ => fun
  | [d1, d2, d3, d4] => { results := [.lit (.bool false)], args := [d1, d2, d3, d4] }
  | _ => none }
def ChainsFixedWrongFalsely : Prop := chainsFixedRow.holds Try.pinned (OpenSpec.ofChange chainsFixedWrong)

/-- 'cruciblelaw11.CheckLevels': WHATEVER THE INPUT: true; the input reads as it did. -/
def checkLevelsSpec : ChangeSpec := { name := "checkLevels", fn := fun _ => fun
  | [d1, d2] => { results := [.lit (.bool true)], args := [d1, d2] }
  | _ => none }
def checkLevelsRow : OpenClaim := { program := "ytjpmimanigjjoaa", sum := "3ba82872c5942c6d0d2e817a99da3578ed26f029b007bec59bdecbf867a9d5fd", func := "crucible/cruciblelaw11.CheckLevels", spec := "checkLevels", unfollowed := true, recurses := true, plainKeys := false, apart := false }
def CheckLevelsSaid : Prop := checkLevelsRow.holds Try.pinned (OpenSpec.ofChange checkLevelsSpec)

/-- ITS FALSE NEIGHBOUR: 'it returns false'. Refute it at one input. -/
def checkLevelsWrong : ChangeSpec := { name := "checkLevels", fn := fun _ => fun
  | [d1, d2] => { results := [.lit (.bool false)], args := [d1, d2] }
  | _ => none }
def CheckLevelsWrongFalsely : Prop := checkLevelsRow.holds Try.pinned (OpenSpec.ofChange checkLevelsWrong)

/-- 'cruciblelaw11.CheckRuns': WHATEVER THE INPUT: true; the input reads as it did. -/
def checkRunsSpec : ChangeSpec := { name := "checkRuns", fn := fun _ => fun
  | [d1, d2] => { results := [.lit (.bool true)], args := [d1, d2] }
  | _ => none }
def checkRunsRow : OpenClaim := { program := "ytjpmimanigjjoaa", sum := "3ba82872c5942c6d0d2e817a99da3578ed26f029b007bec59bdecbf867a9d5fd", func := "crucible/cruciblelaw11.CheckRuns", spec := "checkRuns", unfollowed := true, recurses := true, plainKeys := false, apart := false }
def CheckRunsSaid : Prop := checkRunsRow.holds Try.pinned (OpenSpec.ofChange checkRunsSpec)

/-- ITS FALSE NEIGHBOUR: 'it returns false'. Refute it at one input. -/
def checkRunsWrong : ChangeSpec := { name := "checkRuns", fn := fun _ => fun
  | [d1, d2] => { results := [.lit (.bool false)], args := [d1, d2] }
  | _ => none }
def CheckRunsWrongFalsely : Prop := checkRunsRow.holds Try.pinned (OpenSpec.ofChange checkRunsWrong)

/- THE SECOND FORM. 'bulk': how many values and letters a reading holds, each counted each time it is reached (what is shared counts as often as it is met; a slice's spare places count too). A statement '..UptoSaid' is the law's where the arguments, and the package variables that the reading takes, are together of bulk at most 1048576: NARROWER than '..Said'. Prove '..Said' where nothing that the law and all that it calls make is longer than what came in: it says more and counts as full. Else prove '..UptoSaid'. A law counts once. -/
mutual
def uptoBulk {H : Type} : DataW H → Nat
  | .lit (.string bytes) => bytes.length + 1
  | .lit _ => 1
  | .nil => 1
  | .ptr d => uptoBulk d + 1
  | .slice elems spare => uptoBulkAll elems + uptoBulkAll spare + 1
  | .agg parts => uptoBulkAll parts + 1
  | .iface _ d => uptoBulk d + 1
  | .map entries => uptoBulkEntries entries + 1
  | .held _ => 1
def uptoBulkAll {H : Type} : List (DataW H) → Nat
  | [] => 0
  | d :: r => uptoBulk d + uptoBulkAll r
def uptoBulkEntries {H : Type} : List (Lit × DataW H) → Nat
  | [] => 0
  | x :: r => uptoBulkEntry x + uptoBulkEntries r
def uptoBulkEntry {H : Type} : Lit × DataW H → Nat
  | (.string bytes, d) => bytes.length + uptoBulk d + 1
  | (_, d) => uptoBulk d + 1
 end
def uptoSmall : (H : Type) → List (DataW H) → Bool := fun _ ds => decide (uptoBulkAll ds ≤ 1048576)
def OpenSpec.upto (s : _root_.Go.ChangeSpec) : _root_.Go.OpenSpec := { _root_.Go.OpenSpec.ofChange s with cond := some uptoSmall }

/-- 'cruciblelaw09.ChainsOrders', WHERE WHAT IT READS IS OF BULK AT MOST 1048576: true; the input reads as it did. -/
def chainsOrdersUptoRow : OpenClaim := { program := "ytjpmimanigjjoaa", sum := "3ba82872c5942c6d0d2e817a99da3578ed26f029b007bec59bdecbf867a9d5fd", func := "crucible/cruciblelaw09.ChainsOrders", spec := "chainsOrders", unfollowed := true, recurses := true, plainKeys := false, apart := false, narrowed := true }
def ChainsOrdersUptoSaid : Prop := chainsOrdersUptoRow.holds Try.pinned (OpenSpec.upto chainsOrdersSpec)

/-- 'cruciblelaw09.ChainsAll', WHERE WHAT IT READS IS OF BULK AT MOST 1048576: true; the input reads as it did. -/
def chainsAllUptoRow : OpenClaim := { program := "ytjpmimanigjjoaa", sum := "3ba82872c5942c6d0d2e817a99da3578ed26f029b007bec59bdecbf867a9d5fd", func := "crucible/cruciblelaw09.ChainsAll", spec := "chainsAll", unfollowed := true, recurses := true, plainKeys := false, apart := false, narrowed := true }
def ChainsAllUptoSaid : Prop := chainsAllUptoRow.holds Try.pinned (OpenSpec.upto chainsAllSpec)

/-- 'cruciblelaw09.ChainsFixed', WHERE WHAT IT READS IS OF BULK AT MOST 1048576: true; the input reads as it did. -/
def chainsFixedUptoRow : OpenClaim := { program := "ytjpmimanigjjoaa", sum := "3ba82872c5942c6d0d2e817a99da3578ed26f029b007bec59bdecbf867a9d5fd", func := "crucible/cruciblelaw09.ChainsFixed", spec := "chainsFixed", unfollowed := true, recurses := true, plainKeys := false, apart := false, narrowed := true }
def ChainsFixedUptoSaid : Prop := chainsFixedUptoRow.holds Try.pinned (OpenSpec.upto chainsFixedSpec)

/-- 'cruciblelaw11.CheckLevels', WHERE WHAT IT READS IS OF BULK AT MOST 1048576: true; the input reads as it did. -/
def checkLevelsUptoRow : OpenClaim := { program := "ytjpmimanigjjoaa", sum := "3ba82872c5942c6d0d2e817a99da3578ed26f029b007bec59bdecbf867a9d5fd", func := "crucible/cruciblelaw11.CheckLevels", spec := "checkLevels", unfollowed := true, recurses := true, plainKeys := false, apart := false, narrowed := true }
def CheckLevelsUptoSaid : Prop := checkLevelsUptoRow.holds Try.pinned (OpenSpec.upto checkLevelsSpec)

/-- 'cruciblelaw11.CheckRuns', WHERE WHAT IT READS IS OF BULK AT MOST 1048576: true; the input reads as it did. -/
def checkRunsUptoRow : OpenClaim := { program := "ytjpmimanigjjoaa", sum := "3ba82872c5942c6d0d2e817a99da3578ed26f029b007bec59bdecbf867a9d5fd", func := "crucible/cruciblelaw11.CheckRuns", spec := "checkRuns", unfollowed := true, recurses := true, plainKeys := false, apart := false, narrowed := true }
def CheckRunsUptoSaid : Prop := checkRunsUptoRow.holds Try.pinned (OpenSpec.upto checkRunsSpec)

end Rows
end Go.Proofs.Ytjpmimanigjjoaa
