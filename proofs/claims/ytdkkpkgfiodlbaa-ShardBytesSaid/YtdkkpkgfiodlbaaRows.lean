/-
  No cell of these rows narrows 'for every input' (looked for: loops, veiled, ifaces, maps, wideKeys, modest, calm, conditions, laid).
  DERIVED. THE GIVEN ROWS OF THIS SEAT. 5 by the template 'for every input the law returns true; each argument reads behind the call as it read before'; 0 by the template 'total and deterministic' (their statements: YtdkkpkgfiodlbaaTotals.lean).
  GIVEN WITH THE SEED: the statements are not yours to turn. If you find one false, say at which input.
  Laid BY PROGRAM, IN A SANDBOX (cutbox-rows.mjs): the forced cells as the released guide's own fill.sh prints them over the translation 239f5acb5e27663f… (all of the seat's roots in one cut). By AI agents, Wed Nov 11 2026. No macro, syntax, notation, axiom, sorry.
-/
import Derived.Test.YtdkkpkgfiodlbaaChecked
import GoSem.Claim
import GoSem.ClaimJoined
import GoSem.ClaimMapViews
import Derived.JoinedTies
import Derived.KernelRfl
namespace Go.Proofs.Ytdkkpkgfiodlbaa
/- THE CELL 'sum', in the pinned program and in every row, IS THE sha256 OF THE DUMP (.gsa) THAT YtdkkpkgfiodlbaaProg.lean LOADS. Nothing in Lean hashes anything: it is a label: what it is worth is what the hold of that sum in a sandbox is worth. -/
noncomputable def Try.pinned : Pinned := { name := "ytdkkpkgfiodlbaa", sum := "239f5acb5e27663f121ee960dcb6acec9d104b8338454e6c512c0ebd95edb040", checked := Try.checked }
namespace Rows
def none {H : Type} : Left H := { results := [], args := [] }

/-- 'cruciblelaw21.ShardStamps': WHATEVER THE INPUT: true; the input reads as it did. -/
def shardStampsSpec : ChangeSpec := { name := "shardStamps", fn := fun _ => fun
  | [d1, d2] => { results := [.lit (.bool true)], args := [d1, d2] }
  | _ => none }
def shardStampsRow : OpenClaim := { program := "ytdkkpkgfiodlbaa", sum := "239f5acb5e27663f121ee960dcb6acec9d104b8338454e6c512c0ebd95edb040", func := "crucible/cruciblelaw21.ShardStamps", spec := "shardStamps", inPlace := ["slices.overlaps[crucible/mvcc.Version]"], unfollowed := true, recurses := true, apart := false }
def ShardStampsSaid : Prop := shardStampsRow.holds Try.pinned (OpenSpec.ofChange shardStampsSpec)

/-- ITS FALSE NEIGHBOUR: 'it returns false'. Refute it at one input. -/
def shardStampsWrong : ChangeSpec := { name := "shardStamps", fn := fun _ => fun
  | [d1, d2] => { results := [.lit (.bool false)], args := [d1, d2] }
  | _ => none }
def ShardStampsWrongFalsely : Prop := shardStampsRow.holds Try.pinned (OpenSpec.ofChange shardStampsWrong)

/-- 'cruciblelaw21.ShardFirst': WHATEVER THE INPUT: true; the input reads as it did. -/
def shardFirstSpec : ChangeSpec := { name := "shardFirst", fn := fun _ => fun
  | [d] => { results := [.lit (.bool true)], args := [d] }
  | _ => none }
def shardFirstRow : OpenClaim := { program := "ytdkkpkgfiodlbaa", sum := "239f5acb5e27663f121ee960dcb6acec9d104b8338454e6c512c0ebd95edb040", func := "crucible/cruciblelaw21.ShardFirst", spec := "shardFirst", inPlace := ["slices.overlaps[crucible/mvcc.Version]"], unfollowed := true, recurses := true, apart := false }
def ShardFirstSaid : Prop := shardFirstRow.holds Try.pinned (OpenSpec.ofChange shardFirstSpec)

/-- ITS FALSE NEIGHBOUR: 'it returns false'. Refute it at one input. -/
def shardFirstWrong : ChangeSpec := { name := "shardFirst", fn := fun _ => fun
  | [d] => { results := [.lit (.bool false)], args := [d] }
  | _ => none }
def ShardFirstWrongFalsely : Prop := shardFirstRow.holds Try.pinned (OpenSpec.ofChange shardFirstWrong)

/-- 'cruciblelaw21.ShardApplies': WHATEVER THE INPUT: true; the input reads as it did. -/
def shardAppliesSpec : ChangeSpec := { name := "shardApplies", fn := fun _ => fun
  | [d1, d2, d3, d4] => { results := [.lit (.bool true)], args := [d1, d2, d3, d4] }
  | _ => none }
def shardAppliesRow : OpenClaim := { program := "ytdkkpkgfiodlbaa", sum := "239f5acb5e27663f121ee960dcb6acec9d104b8338454e6c512c0ebd95edb040", func := "crucible/cruciblelaw21.ShardApplies", spec := "shardApplies", inPlace := ["slices.overlaps[crucible/mvcc.Version]"], unfollowed := true, recurses := true, apart := false }
def ShardAppliesSaid : Prop := shardAppliesRow.holds Try.pinned (OpenSpec.ofChange shardAppliesSpec)

/-- ITS FALSE NEIGHBOUR: 'it returns false'. Refute it at one input. -/
def shardAppliesWrong : ChangeSpec := { name := "shardApplies", fn := fun _ => fun
  | [d1, d2, d3, d4] => { results := [.lit (.bool false)], args := [d1, d2, d3, d4] }
  | _ => none }
def ShardAppliesWrongFalsely : Prop := shardAppliesRow.holds Try.pinned (OpenSpec.ofChange shardAppliesWrong)

/-- 'cruciblelaw21.ShardBytes': WHATEVER THE INPUT: true; the input reads as it did. -/
def shardBytesSpec : ChangeSpec := { name := "shardBytes", fn := fun _ => fun
  | [d1, d2, d3] => { results := [.lit (.bool true)], args := [d1, d2, d3] }
  | _ => none }
def shardBytesRow : OpenClaim := { program := "ytdkkpkgfiodlbaa", sum := "239f5acb5e27663f121ee960dcb6acec9d104b8338454e6c512c0ebd95edb040", func := "crucible/cruciblelaw21.ShardBytes", spec := "shardBytes", inPlace := ["slices.overlaps[crucible/mvcc.Version]"], unfollowed := true, recurses := true, apart := false }
def ShardBytesSaid : Prop := shardBytesRow.holds Try.pinned (OpenSpec.ofChange shardBytesSpec)

/-- ITS FALSE NEIGHBOUR: 'it returns false'. Refute it at one input. -/
def shardBytesWrong : ChangeSpec := { name := "shardBytes", fn := fun _ => fun
  | [d1, d2, d3] => { results := [.lit (.bool false)], args := [d1, d2, d3] }
  | _ => none }
def ShardBytesWrongFalsely : Prop := shardBytesRow.holds Try.pinned (OpenSpec.ofChange shardBytesWrong)

/-- 'cruciblelaw21.ShardSame': WHATEVER THE INPUT: true; the input reads as it did. -/
def shardSameSpec : ChangeSpec := { name := "shardSame", fn := fun _ => fun
  | [d1, d2, d3] => { results := [.lit (.bool true)], args := [d1, d2, d3] }
  | _ => none }
def shardSameRow : OpenClaim := { program := "ytdkkpkgfiodlbaa", sum := "239f5acb5e27663f121ee960dcb6acec9d104b8338454e6c512c0ebd95edb040", func := "crucible/cruciblelaw21.ShardSame", spec := "shardSame", inPlace := ["slices.overlaps[crucible/mvcc.Version]"], unfollowed := true, recurses := true, apart := false }
def ShardSameSaid : Prop := shardSameRow.holds Try.pinned (OpenSpec.ofChange shardSameSpec)

/-- ITS FALSE NEIGHBOUR: 'it returns false'. Refute it at one input. -/
def shardSameWrong : ChangeSpec := { name := "shardSame", fn := fun _ => fun
  | [d1, d2, d3] => { results := [.lit (.bool false)], args := [d1, d2, d3] }
  | _ => none }
def ShardSameWrongFalsely : Prop := shardSameRow.holds Try.pinned (OpenSpec.ofChange shardSameWrong)

/- THE SECOND FORM. 'bulk': how many values and letters a reading holds, each counted each time it is reached (what is shared counts as often as it is met; a slice's spare places count too). A statement '..UptoSaid' is the law's where the arguments, and the package variables that the reading takes, are together of bulk at most 1048576: NARROWER than '..Said'. Prove '..Said' where nothing that the law and all that it calls make is longer than what came in: it says more and counts as full. Else prove '..UptoSaid'. A law counts once. -/
mutual
def uptoBulk {H : Type} : DataW H → Nat
  | .lit (.string bytes) => bytes.length + 1
  | .lit _ => 1
  | .nil => 1
  | .ptr d => uptoBulk d + 1
  | .slice elems spare => uptoBulkAll elems + uptoBulkAll spare + 1
  | .agg parts => uptoBulkAll parts + 1
  | .iface _ d => uptoBulk d + 1
  | .map entries => uptoBulkEntries entries + 1
  | .held _ => 1
def uptoBulkAll {H : Type} : List (DataW H) → Nat
  | [] => 0
  | d :: r => uptoBulk d + uptoBulkAll r
def uptoBulkEntries {H : Type} : List (Lit × DataW H) → Nat
  | [] => 0
  | x :: r => uptoBulkEntry x + uptoBulkEntries r
def uptoBulkEntry {H : Type} : Lit × DataW H → Nat
  | (.string bytes, d) => bytes.length + uptoBulk d + 1
  | (_, d) => uptoBulk d + 1
 end
def uptoSmall : (H : Type) → List (DataW H) → Bool := fun _ ds => decide (uptoBulkAll ds ≤ 1048576)
def OpenSpec.upto (s : _root_.Go.ChangeSpec) : _root_.Go.OpenSpec := { _root_.Go.OpenSpec.ofChange s with cond := some uptoSmall }

/-- 'cruciblelaw21.ShardStamps', WHERE WHAT IT READS IS OF BULK AT MOST 1048576: true; the input reads as it did. -/
def shardStampsUptoRow : OpenClaim := { program := "ytdkkpkgfiodlbaa", sum := "239f5acb5e27663f121ee960dcb6acec9d104b8338454e6c512c0ebd95edb040", func := "crucible/cruciblelaw21.ShardStamps", spec := "shardStamps", inPlace := ["slices.overlaps[crucible/mvcc.Version]"], unfollowed := true, recurses := true, apart := false, narrowed := true }
def ShardStampsUptoSaid : Prop := shardStampsUptoRow.holds Try.pinned (OpenSpec.upto shardStampsSpec)

/-- 'cruciblelaw21.ShardFirst', WHERE WHAT IT READS IS OF BULK AT MOST 1048576: true; the input reads as it did. -/
def shardFirstUptoRow : OpenClaim := { program := "ytdkkpkgfiodlbaa", sum := "239f5acb5e27663f121ee960dcb6acec9d104b8338454e6c512c0ebd95edb040", func := "crucible/cruciblelaw21.ShardFirst", spec := "shardFirst", inPlace := ["slices.overlaps[crucible/mvcc.Version]"], unfollowed := true, recurses := true, apart := false, narrowed := true }
def ShardFirstUptoSaid : Prop := shardFirstUptoRow.holds Try.pinned (OpenSpec.upto shardFirstSpec)

/-- 'cruciblelaw21.ShardApplies', WHERE WHAT IT READS IS OF BULK AT MOST 1048576: true; the input reads as it did. -/
def shardAppliesUptoRow : OpenClaim := { program := "ytdkkpkgfiodlbaa", sum := "239f5acb5e27663f121ee960dcb6acec9d104b8338454e6c512c0ebd95edb040", func := "crucible/cruciblelaw21.ShardApplies", spec := "shardApplies", inPlace := ["slices.overlaps[crucible/mvcc.Version]"], unfollowed := true, recurses := true, apart := false, narrowed := true }
def ShardAppliesUptoSaid : Prop := shardAppliesUptoRow.holds Try.pinned (OpenSpec.upto shardAppliesSpec)

/-- 'cruciblelaw21.ShardBytes', WHERE WHAT IT READS IS OF BULK AT MOST 1048576: true; the input reads as it did. -/
def shardBytesUptoRow : OpenClaim := { program := "ytdkkpkgfiodlbaa", sum := "239f5acb5e27663f121ee960dcb6acec9d104b8338454e6c512c0ebd95edb040", func := "crucible/cruciblelaw21.ShardBytes", spec := "shardBytes", inPlace := ["slices.overlaps[crucible/mvcc.Version]"], unfollowed := true, recurses := true, apart := false, narrowed := true }
def ShardBytesUptoSaid : Prop := shardBytesUptoRow.holds Try.pinned (OpenSpec.upto shardBytesSpec)

/-- 'cruciblelaw21.ShardSame', WHERE WHAT IT READS IS OF BULK AT MOST 1048576: true; the input reads as it did. -/
def shardSameUptoRow : OpenClaim := { program := "ytdkkpkgfiodlbaa", sum := "239f5acb5e27663f121ee960dcb6acec9d104b8338454e6c512c0ebd95edb040", func := "crucible/cruciblelaw21.ShardSame", spec := "shardSame", inPlace := ["slices.overlaps[crucible/mvcc.Version]"], unfollowed := true, recurses := true, apart := false, narrowed := true }
def ShardSameUptoSaid : Prop := shardSameUptoRow.holds Try.pinned (OpenSpec.upto shardSameSpec)

end Rows
end Go.Proofs.Ytdkkpkgfiodlbaa
