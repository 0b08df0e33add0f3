/-
  No cell of these rows narrows 'for every input' (looked for: loops, veiled, ifaces, maps, wideKeys, modest, calm, conditions, laid).
  DERIVED. THE GIVEN ROWS OF THIS SEAT. 5 by the template 'for every input the law returns true; each argument reads behind the call as it read before'; 0 by the template 'total and deterministic' (their statements: YtafboehdihokhaaTotals.lean).
  GIVEN WITH THE SEED: the statements are not yours to turn. If you find one false, say at which input.
  Laid BY PROGRAM, IN A SANDBOX (cutbox-rows.mjs): the forced cells as the released guide's own fill.sh prints them over the translation 60b04b8493f5fff7… (all of the seat's roots in one cut). By AI agents, Wed Nov 11 2026. No macro, syntax, notation, axiom, sorry.
-/
import Derived.Test.YtafboehdihokhaaChecked
import GoSem.Claim
import GoSem.ClaimJoined
import GoSem.ClaimMapViews
import Derived.JoinedTies
import Derived.KernelRfl
namespace Go.Proofs.Ytafboehdihokhaa
/- THE CELL 'sum', in the pinned program and in every row, IS THE sha256 OF THE DUMP (.gsa) THAT YtafboehdihokhaaProg.lean LOADS. Nothing in Lean hashes anything: it is a label: what it is worth is what the hold of that sum in a sandbox is worth. -/
noncomputable def Try.pinned : Pinned := { name := "ytafboehdihokhaa", sum := "60b04b8493f5fff7c567233d9c1235634f1cb7dea29806af70fb5f2bd37d1178", checked := Try.checked }
namespace Rows
def none {H : Type} : Left H := { results := [], args := [] }

/-- 'cruciblelaw09.ChainsChoices': WHATEVER THE INPUT: true; the input reads as it did. -/
def chainsChoicesSpec : ChangeSpec := { name := "chainsChoices", fn := fun _ => fun
  | [d] => { results := [.lit (.bool true)], args := [d] }
  | _ => none }
def chainsChoicesRow : OpenClaim := { program := "ytafboehdihokhaa", sum := "60b04b8493f5fff7c567233d9c1235634f1cb7dea29806af70fb5f2bd37d1178", func := "crucible/cruciblelaw09.ChainsChoices", spec := "chainsChoices", unfollowed := true, recurses := true, plainKeys := false, apart := false }
def ChainsChoicesSaid : Prop := chainsChoicesRow.holds Try.pinned (OpenSpec.ofChange chainsChoicesSpec)

/-- ITS FALSE NEIGHBOUR: 'it returns false'. Refute it at one input. -/
def chainsChoicesWrong : ChangeSpec := { name := "chainsChoices", fn := fun _ => fun
  | [d] => { results := [.lit (.bool false)], args := [d] }
  | _ => none }
def ChainsChoicesWrongFalsely : Prop := chainsChoicesRow.holds Try.pinned (OpenSpec.ofChange chainsChoicesWrong)

/-- 'cruciblelaw09.ChainsFacts': WHATEVER THE INPUT: true; the input reads as it did. -/
def chainsFactsSpec : ChangeSpec := { name := "chainsFacts", fn := fun _ => fun
  | [d1, d2] => { results := [.lit (.bool true)], args := [d1, d2] }
  | _ => none }
def chainsFactsRow : OpenClaim := { program := "ytafboehdihokhaa", sum := "60b04b8493f5fff7c567233d9c1235634f1cb7dea29806af70fb5f2bd37d1178", func := "crucible/cruciblelaw09.ChainsFacts", spec := "chainsFacts", unfollowed := true, recurses := true, plainKeys := false, apart := false }
def ChainsFactsSaid : Prop := chainsFactsRow.holds Try.pinned (OpenSpec.ofChange chainsFactsSpec)

/-- ITS FALSE NEIGHBOUR: 'it returns false'. Refute it at one input. -/
def chainsFactsWrong : ChangeSpec := { name := "chainsFacts", fn := fun _ => fun
  | [d1, d2] => { results := [.lit (.bool false)], args := [d1, d2] }
  | _ => none }
def ChainsFactsWrongFalsely : Prop := chainsFactsRow.holds Try.pinned (OpenSpec.ofChange chainsFactsWrong)

/-- 'cruciblelaw09.ChainsOrders': WHATEVER THE INPUT: true; the input reads as it did. -/
def chainsOrdersSpec : ChangeSpec := { name := "chainsOrders", fn := fun _ => fun
  | [d1, d2, d3] => { results := [.lit (.bool true)], args := [d1, d2, d3] }
  | _ => none }
def chainsOrdersRow : OpenClaim := { program := "ytafboehdihokhaa", sum := "60b04b8493f5fff7c567233d9c1235634f1cb7dea29806af70fb5f2bd37d1178", func := "crucible/cruciblelaw09.ChainsOrders", spec := "chainsOrders", unfollowed := true, recurses := true, plainKeys := false, apart := false }
def ChainsOrdersSaid : Prop := chainsOrdersRow.holds Try.pinned (OpenSpec.ofChange chainsOrdersSpec)

/-- ITS FALSE NEIGHBOUR: 'it returns false'. Refute it at one input. -/
def chainsOrdersWrong : ChangeSpec := { name := "chainsOrders", fn := fun _ => fun
  | [d1, d2, d3] => { results := [.lit (.bool false)], args := [d1, d2, d3] }
  | _ => none }
def ChainsOrdersWrongFalsely : Prop := chainsOrdersRow.holds Try.pinned (OpenSpec.ofChange chainsOrdersWrong)

/-- 'cruciblelaw09.ChainsAll': WHATEVER THE INPUT: true; the input reads as it did. -/
def chainsAllSpec : ChangeSpec := { name := "chainsAll", fn := fun _ => fun
  | [d1, d2] => { results := [.lit (.bool true)], args := [d1, d2] }
  | _ => none }
def chainsAllRow : OpenClaim := { program := "ytafboehdihokhaa", sum := "60b04b8493f5fff7c567233d9c1235634f1cb7dea29806af70fb5f2bd37d1178", func := "crucible/cruciblelaw09.ChainsAll", spec := "chainsAll", unfollowed := true, recurses := true, plainKeys := false, apart := false }
def ChainsAllSaid : Prop := chainsAllRow.holds Try.pinned (OpenSpec.ofChange chainsAllSpec)

/-- ITS FALSE NEIGHBOUR: 'it returns false'. Refute it at one input. -/
def chainsAllWrong : ChangeSpec := { name := "chainsAll", fn := fun _ => fun
  | [d1, d2] => { results := [.lit (.bool false)], args := [d1, d2] }
  | _ => none }
def ChainsAllWrongFalsely : Prop := chainsAllRow.holds Try.pinned (OpenSpec.ofChange chainsAllWrong)

/-- 'cruciblelaw09.ChainsFixed': WHATEVER THE INPUT: true; the input reads as it did. -/
def chainsFixedSpec : ChangeSpec := { name := "chainsFixed", fn := fun _ => fun
  | [d1, d2, d3, d4] => { results := [.lit (.bool true)], args := [d1, d2, d3, d4] }
  | _ => none }
def chainsFixedRow : OpenClaim := { program := "ytafboehdihokhaa", sum := "60b04b8493f5fff7c567233d9c1235634f1cb7dea29806af70fb5f2bd37d1178", func := "crucible/cruciblelaw09.ChainsFixed", spec := "chainsFixed", unfollowed := true, recurses := true, plainKeys := false, apart := false }
def ChainsFixedSaid : Prop := chainsFixedRow.holds Try.pinned (OpenSpec.ofChange chainsFixedSpec)

/-- ITS FALSE NEIGHBOUR: 'it returns false'. Refute it at one input. -/
def chainsFixedWrong : ChangeSpec := { name := "chainsFixed", fn := fun _ => fun
  | [d1, d2, d3, d4] => { results := [.lit (.bool false)], args := [d1, d2, d3, d4] }
  | _ => none }
def ChainsFixedWrongFalsely : Prop := chainsFixedRow.holds Try.pinned (OpenSpec.ofChange chainsFixedWrong)

/- THE SECOND FORM. 'bulk': how many values and letters a reading holds, each counted each time it is reached (what is shared counts as often as it is met; a slice's spare places count too). A statement '..UptoSaid' is the law's where the arguments, and the package variables that the reading takes, are together of bulk at most 1048576: NARROWER than '..Said'. Prove '..Said' where nothing that the law and all that it calls make is longer than what came in: it says more and counts as full. Else prove '..UptoSaid'. A law counts once. -/
mutual
def uptoBulk {H : Type} : DataW H → Nat
  | .lit (.string bytes) => bytes.length + 1
  | .lit _ => 1
  | .nil => 1
  | .ptr d => uptoBulk d + 1
  | .slice elems spare => uptoBulkAll elems + uptoBulkAll spare + 1
  | .agg parts => uptoBulkAll parts + 1
  | .iface _ d => uptoBulk d + 1
  | .map entries => uptoBulkEntries entries + 1
  | .held _ => 1
def uptoBulkAll {H : Type} : List (DataW H) → Nat
  | [] => 0
  | d :: r => uptoBulk d + uptoBulkAll r
def uptoBulkEntries {H : Type} : List (Lit × DataW H) → Nat
  | [] => 0
  | x :: r => uptoBulkEntry x + uptoBulkEntries r
def uptoBulkEntry {H : Type} : Lit × DataW H → Nat
  | (.string bytes, d) => bytes.length + uptoBulk d + 1
  | (_, d) => uptoBulk d + 1
 end
def uptoSmall : (H : Type) → List (DataW H) → Bool := fun _ ds => decide (uptoBulkAll ds ≤ 1048576)
def OpenSpec.upto (s : _root_.Go.ChangeSpec) : _root_.Go.OpenSpec := { _root_.Go.OpenSpec.ofChange s with cond := some uptoSmall }

/-- 'cruciblelaw09.ChainsChoices', WHERE WHAT IT READS IS OF BULK AT MOST 1048576: true; the input reads as it did. -/
def chainsChoicesUptoRow : OpenClaim := { program := "ytafboehdihokhaa", sum := "60b04b8493f5fff7c567233d9c1235634f1cb7dea29806af70fb5f2bd37d1178", func := "crucible/cruciblelaw09.ChainsChoices", spec := "chainsChoices", unfollowed := true, recurses := true, plainKeys := false, apart := false, narrowed := true }
def ChainsChoicesUptoSaid : Prop := chainsChoicesUptoRow.holds Try.pinned (OpenSpec.upto chainsChoicesSpec)

/-- 'cruciblelaw09.ChainsFacts', WHERE WHAT IT READS IS OF BULK AT MOST 1048576: true; the input reads as it did. -/
def chainsFactsUptoRow : OpenClaim := { program := "ytafboehdihokhaa", sum := "60b04b8493f5fff7c567233d9c1235634f1cb7dea29806af70fb5f2bd37d1178", func := "crucible/cruciblelaw09.ChainsFacts", spec := "chainsFacts", unfollowed := true, recurses := true, plainKeys := false, apart := false, narrowed := true }
def ChainsFactsUptoSaid : Prop := chainsFactsUptoRow.holds Try.pinned (OpenSpec.upto chainsFactsSpec)

/-- 'cruciblelaw09.ChainsOrders', WHERE WHAT IT READS IS OF BULK AT MOST 1048576: true; the input reads as it did. -/
def chainsOrdersUptoRow : OpenClaim := { program := "ytafboehdihokhaa", sum := "60b04b8493f5fff7c567233d9c1235634f1cb7dea29806af70fb5f2bd37d1178", func := "crucible/cruciblelaw09.ChainsOrders", spec := "chainsOrders", unfollowed := true, recurses := true, plainKeys := false, apart := false, narrowed := true }
def ChainsOrdersUptoSaid : Prop := chainsOrdersUptoRow.holds Try.pinned (OpenSpec.upto chainsOrdersSpec)

/-- 'cruciblelaw09.ChainsAll', WHERE WHAT IT READS IS OF BULK AT MOST 1048576: true; the input reads as it did. -/
def chainsAllUptoRow : OpenClaim := { program := "ytafboehdihokhaa", sum := "60b04b8493f5fff7c567233d9c1235634f1cb7dea29806af70fb5f2bd37d1178", func := "crucible/cruciblelaw09.ChainsAll", spec := "chainsAll", unfollowed := true, recurses := true, plainKeys := false, apart := false, narrowed := true }
def ChainsAllUptoSaid : Prop := chainsAllUptoRow.holds Try.pinned (OpenSpec.upto chainsAllSpec)

/-- 'cruciblelaw09.ChainsFixed', WHERE WHAT IT READS IS OF BULK AT MOST 1048576: true; the input reads as it did. -/
def chainsFixedUptoRow : OpenClaim := { program := "ytafboehdihokhaa", sum := "60b04b8493f5fff7c567233d9c1235634f1cb7dea29806af70fb5f2bd37d1178", func := "crucible/cruciblelaw09.ChainsFixed", spec := "chainsFixed", unfollowed := true, recurses := true, plainKeys := false, apart := false, narrowed := true }
def ChainsFixedUptoSaid : Prop := chainsFixedUptoRow.holds Try.pinned (OpenSpec.upto chainsFixedSpec)

end Rows
end Go.Proofs.Ytafboehdihokhaa
