/-
  No cell of these rows narrows 'for every input' (looked for: loops, veiled, ifaces, maps, wideKeys, modest, calm, conditions, laid).
  DERIVED. THE GIVEN ROWS OF THIS SEAT. 6 by the template 'for every input the law returns true; each argument reads behind the call as it read before'; 0 by the template 'total and deterministic' (their statements: YtbadpfcjoobniaaTotals.lean).
  GIVEN WITH THE SEED: the statements are not yours to turn. If you find one false, say at which input.
  Laid BY PROGRAM, IN A SANDBOX (cutbox-rows.mjs): the forced cells as the released guide's own fill.sh prints them over the translation 8c0a8e6307dec74b… (all of the seat's roots in one cut). By AI agents, Wed Nov 11 2026. No macro, syntax, notation, axiom, sorry.
-/
import Derived.Test.YtbadpfcjoobniaaChecked
import GoSem.Claim
import GoSem.ClaimJoined
import GoSem.ClaimMapViews
import Derived.JoinedTies
import Derived.KernelRfl
namespace Go.Proofs.Ytbadpfcjoobniaa
/- THE CELL 'sum', in the pinned program and in every row, IS THE sha256 OF THE DUMP (.gsa) THAT YtbadpfcjoobniaaProg.lean LOADS. Nothing in Lean hashes anything: it is a label: what it is worth is what the hold of that sum in a sandbox is worth. -/
noncomputable def Try.pinned : Pinned := { name := "ytbadpfcjoobniaa", sum := "8c0a8e6307dec74be0b869bd9b7f1d3c3c8babdccac0fef572941014be1028bb", checked := Try.checked }
namespace Rows
def none {H : Type} : Left H := { results := [], args := [] }

/-- 'cruciblelaw19.MvccPast': WHATEVER THE INPUT: true; the input reads as it did. -/
def mvccPastSpec : ChangeSpec := { name := "mvccPast", fn := fun _ => fun
  | [d1, d2, d3] => { results := [.lit (.bool true)], args := [d1, d2, d3] }
  | _ => none }
def mvccPastRow : OpenClaim := { program := "ytbadpfcjoobniaa", sum := "8c0a8e6307dec74be0b869bd9b7f1d3c3c8babdccac0fef572941014be1028bb", func := "crucible/cruciblelaw19.MvccPast", spec := "mvccPast", inPlace := ["slices.overlaps[crucible/mvcc.Version]"], unfollowed := true, recurses := true, apart := false }
def MvccPastSaid : Prop := mvccPastRow.holds Try.pinned (OpenSpec.ofChange mvccPastSpec)

/-- ITS FALSE NEIGHBOUR: 'it returns false'. Refute it at one input. -/
def mvccPastWrong : ChangeSpec := { name := "mvccPast", fn := fun _ => fun
  | [d1, d2, d3] => { results := [.lit (.bool false)], args := [d1, d2, d3] }
  | _ => none }
def MvccPastWrongFalsely : Prop := mvccPastRow.holds Try.pinned (OpenSpec.ofChange mvccPastWrong)

/-- 'cruciblelaw19.MvccSerial': WHATEVER THE INPUT: true; the input reads as it did. -/
def mvccSerialSpec : ChangeSpec := { name := "mvccSerial", fn := fun _ => fun
  | [d1, d2, d3, d4] => { results := [.lit (.bool true)], args := [d1, d2, d3, d4] }
  | _ => none }
def mvccSerialRow : OpenClaim := { program := "ytbadpfcjoobniaa", sum := "8c0a8e6307dec74be0b869bd9b7f1d3c3c8babdccac0fef572941014be1028bb", func := "crucible/cruciblelaw19.MvccSerial", spec := "mvccSerial", inPlace := ["slices.overlaps[crucible/mvcc.Version]"], unfollowed := true, recurses := true, apart := false }
def MvccSerialSaid : Prop := mvccSerialRow.holds Try.pinned (OpenSpec.ofChange mvccSerialSpec)

/-- ITS FALSE NEIGHBOUR: 'it returns false'. Refute it at one input. -/
def mvccSerialWrong : ChangeSpec := { name := "mvccSerial", fn := fun _ => fun
  | [d1, d2, d3, d4] => { results := [.lit (.bool false)], args := [d1, d2, d3, d4] }
  | _ => none }
def MvccSerialWrongFalsely : Prop := mvccSerialRow.holds Try.pinned (OpenSpec.ofChange mvccSerialWrong)

/-- 'cruciblelaw19.MvccFirst': WHATEVER THE INPUT: true; the input reads as it did. -/
def mvccFirstSpec : ChangeSpec := { name := "mvccFirst", fn := fun _ => fun
  | [d1, d2, d3, d4, d5] => { results := [.lit (.bool true)], args := [d1, d2, d3, d4, d5] }
  | _ => none }
def mvccFirstRow : OpenClaim := { program := "ytbadpfcjoobniaa", sum := "8c0a8e6307dec74be0b869bd9b7f1d3c3c8babdccac0fef572941014be1028bb", func := "crucible/cruciblelaw19.MvccFirst", spec := "mvccFirst", inPlace := ["slices.overlaps[crucible/mvcc.Version]"], unfollowed := true, recurses := true, apart := false }
def MvccFirstSaid : Prop := mvccFirstRow.holds Try.pinned (OpenSpec.ofChange mvccFirstSpec)

/-- ITS FALSE NEIGHBOUR: 'it returns false'. Refute it at one input. -/
def mvccFirstWrong : ChangeSpec := { name := "mvccFirst", fn := fun _ => fun
  | [d1, d2, d3, d4, d5] => { results := [.lit (.bool false)], args := [d1, d2, d3, d4, d5] }
  | _ => none }
def MvccFirstWrongFalsely : Prop := mvccFirstRow.holds Try.pinned (OpenSpec.ofChange mvccFirstWrong)

/-- 'cruciblelaw19.MvccRuns': WHATEVER THE INPUT: true; the input reads as it did. -/
def mvccRunsSpec : ChangeSpec := { name := "mvccRuns", fn := fun _ => fun
  | [d1, d2, d3] => { results := [.lit (.bool true)], args := [d1, d2, d3] }
  | _ => none }
def mvccRunsRow : OpenClaim := { program := "ytbadpfcjoobniaa", sum := "8c0a8e6307dec74be0b869bd9b7f1d3c3c8babdccac0fef572941014be1028bb", func := "crucible/cruciblelaw19.MvccRuns", spec := "mvccRuns", inPlace := ["slices.overlaps[crucible/mvcc.Version]"], unfollowed := true, recurses := true, apart := false }
def MvccRunsSaid : Prop := mvccRunsRow.holds Try.pinned (OpenSpec.ofChange mvccRunsSpec)

/-- ITS FALSE NEIGHBOUR: 'it returns false'. Refute it at one input. -/
def mvccRunsWrong : ChangeSpec := { name := "mvccRuns", fn := fun _ => fun
  | [d1, d2, d3] => { results := [.lit (.bool false)], args := [d1, d2, d3] }
  | _ => none }
def MvccRunsWrongFalsely : Prop := mvccRunsRow.holds Try.pinned (OpenSpec.ofChange mvccRunsWrong)

/-- 'cruciblelaw19.MvccEnds': WHATEVER THE INPUT: true; the input reads as it did. -/
def mvccEndsSpec : ChangeSpec := { name := "mvccEnds", fn := fun _ => fun
  | [d1, d2, d3] => { results := [.lit (.bool true)], args := [d1, d2, d3] }
  | _ => none }
def mvccEndsRow : OpenClaim := { program := "ytbadpfcjoobniaa", sum := "8c0a8e6307dec74be0b869bd9b7f1d3c3c8babdccac0fef572941014be1028bb", func := "crucible/cruciblelaw19.MvccEnds", spec := "mvccEnds", inPlace := ["slices.overlaps[crucible/mvcc.Version]"], unfollowed := true, recurses := true, apart := false }
def MvccEndsSaid : Prop := mvccEndsRow.holds Try.pinned (OpenSpec.ofChange mvccEndsSpec)

/-- ITS FALSE NEIGHBOUR: 'it returns false'. Refute it at one input. -/
def mvccEndsWrong : ChangeSpec := { name := "mvccEnds", fn := fun _ => fun
  | [d1, d2, d3] => { results := [.lit (.bool false)], args := [d1, d2, d3] }
  | _ => none }
def MvccEndsWrongFalsely : Prop := mvccEndsRow.holds Try.pinned (OpenSpec.ofChange mvccEndsWrong)

/-- 'cruciblelaw19.MvccBits': WHATEVER THE INPUT: true; the input reads as it did. -/
def mvccBitsSpec : ChangeSpec := { name := "mvccBits", fn := fun _ => fun
  | [d] => { results := [.lit (.bool true)], args := [d] }
  | _ => none }
def mvccBitsRow : OpenClaim := { program := "ytbadpfcjoobniaa", sum := "8c0a8e6307dec74be0b869bd9b7f1d3c3c8babdccac0fef572941014be1028bb", func := "crucible/cruciblelaw19.MvccBits", spec := "mvccBits", inPlace := ["slices.overlaps[crucible/mvcc.Version]"], unfollowed := true, recurses := true, apart := false }
def MvccBitsSaid : Prop := mvccBitsRow.holds Try.pinned (OpenSpec.ofChange mvccBitsSpec)

/-- ITS FALSE NEIGHBOUR: 'it returns false'. Refute it at one input. -/
def mvccBitsWrong : ChangeSpec := { name := "mvccBits", fn := fun _ => fun
  | [d] => { results := [.lit (.bool false)], args := [d] }
  | _ => none }
def MvccBitsWrongFalsely : Prop := mvccBitsRow.holds Try.pinned (OpenSpec.ofChange mvccBitsWrong)

/- THE SECOND FORM. 'bulk': how many values and letters a reading holds, each counted each time it is reached (what is shared counts as often as it is met; a slice's spare places count too). A statement '..UptoSaid' is the law's where the arguments, and the package variables that the reading takes, are together of bulk at most 1048576: NARROWER than '..Said'. Prove '..Said' where nothing that the law and all that it calls make is longer than what came in: it says more and counts as full. Else prove '..UptoSaid'. A law counts once. -/
mutual
def uptoBulk {H : Type} : DataW H → Nat
  | .lit (.string bytes) => bytes.length + 1
  | .lit _ => 1
  | .nil => 1
  | .ptr d => uptoBulk d + 1
  | .slice elems spare => uptoBulkAll elems + uptoBulkAll spare + 1
  | .agg parts => uptoBulkAll parts + 1
  | .iface _ d => uptoBulk d + 1
  | .map entries => uptoBulkEntries entries + 1
  | .held _ => 1
def uptoBulkAll {H : Type} : List (DataW H) → Nat
  | [] => 0
  | d :: r => uptoBulk d + uptoBulkAll r
def uptoBulkEntries {H : Type} : List (Lit × DataW H) → Nat
  | [] => 0
  | x :: r => uptoBulkEntry x + uptoBulkEntries r
def uptoBulkEntry {H : Type} : Lit × DataW H → Nat
  | (.string bytes, d) => bytes.length + uptoBulk d + 1
  | (_, d) => uptoBulk d + 1
 end
def uptoSmall : (H : Type) → List (DataW H) → Bool := fun _ ds => decide (uptoBulkAll ds ≤ 1048576)
def OpenSpec.upto (s : _root_.Go.ChangeSpec) : _root_.Go.OpenSpec := { _root_.Go.OpenSpec.ofChange s with cond := some uptoSmall }

/-- 'cruciblelaw19.MvccPast', WHERE WHAT IT READS IS OF BULK AT MOST 1048576: true; the input reads as it did. -/
def mvccPastUptoRow : OpenClaim := { program := "ytbadpfcjoobniaa", sum := "8c0a8e6307dec74be0b869bd9b7f1d3c3c8babdccac0fef572941014be1028bb", func := "crucible/cruciblelaw19.MvccPast", spec := "mvccPast", inPlace := ["slices.overlaps[crucible/mvcc.Version]"], unfollowed := true, recurses := true, apart := false, narrowed := true }
def MvccPastUptoSaid : Prop := mvccPastUptoRow.holds Try.pinned (OpenSpec.upto mvccPastSpec)

/-- 'cruciblelaw19.MvccSerial', WHERE WHAT IT READS IS OF BULK AT MOST 1048576: true; the input reads as it did. -/
def mvccSerialUptoRow : OpenClaim := { program := "ytbadpfcjoobniaa", sum := "8c0a8e6307dec74be0b869bd9b7f1d3c3c8babdccac0fef572941014be1028bb", func := "crucible/cruciblelaw19.MvccSerial", spec := "mvccSerial", inPlace := ["slices.overlaps[crucible/mvcc.Version]"], unfollowed := true, recurses := true, apart := false, narrowed := true }
def MvccSerialUptoSaid : Prop := mvccSerialUptoRow.holds Try.pinned (OpenSpec.upto mvccSerialSpec)

/-- 'cruciblelaw19.MvccFirst', WHERE WHAT IT READS IS OF BULK AT MOST 1048576: true; the input reads as it did. -/
def mvccFirstUptoRow : OpenClaim := { program := "ytbadpfcjoobniaa", sum := "8c0a8e6307dec74be0b869bd9b7f1d3c3c8babdccac0fef572941014be1028bb", func := "crucible/cruciblelaw19.MvccFirst", spec := "mvccFirst", inPlace := ["slices.overlaps[crucible/mvcc.Version]"], unfollowed := true, recurses := true, apart := false, narrowed := true }
def MvccFirstUptoSaid : Prop := mvccFirstUptoRow.holds Try.pinned (OpenSpec.upto mvccFirstSpec)

/-- 'cruciblelaw19.MvccRuns', WHERE WHAT IT READS IS OF BULK AT MOST 1048576: true; the input reads as it did. -/
def mvccRunsUptoRow : OpenClaim := { program := "ytbadpfcjoobniaa", sum := "8c0a8e6307dec74be0b869bd9b7f1d3c3c8babdccac0fef572941014be1028bb", func := "crucible/cruciblelaw19.MvccRuns", spec := "mvccRuns", inPlace := ["slices.overlaps[crucible/mvcc.Version]"], unfollowed := true, recurses := true, apart := false, narrowed := true }
def MvccRunsUptoSaid : Prop := mvccRunsUptoRow.holds Try.pinned (OpenSpec.upto mvccRunsSpec)

/-- 'cruciblelaw19.MvccEnds', WHERE WHAT IT READS IS OF BULK AT MOST 1048576: true; the input reads as it did. -/
def mvccEndsUptoRow : OpenClaim := { program := "ytbadpfcjoobniaa", sum := "8c0a8e6307dec74be0b869bd9b7f1d3c3c8babdccac0fef572941014be1028bb", func := "crucible/cruciblelaw19.MvccEnds", spec := "mvccEnds", inPlace := ["slices.overlaps[crucible/mvcc.Version]"], unfollowed := true, recurses := true, apart := false, narrowed := true }
def MvccEndsUptoSaid : Prop := mvccEndsUptoRow.holds Try.pinned (OpenSpec.upto mvccEndsSpec)

/-- 'cruciblelaw19.MvccBits', WHERE WHAT IT READS IS OF BULK AT MOST 1048576: true; the input reads as it did. -/
def mvccBitsUptoRow : OpenClaim := { program := "ytbadpfcjoobniaa", sum := "8c0a8e6307dec74be0b869bd9b7f1d3c3c8babdccac0fef572941014be1028bb", func := "crucible/cruciblelaw19.MvccBits", spec := "mvccBits", inPlace := ["slices.overlaps[crucible/mvcc.Version]"], unfollowed := true, recurses := true, apart := false, narrowed := true }
def MvccBitsUptoSaid : Prop := mvccBitsUptoRow.holds Try.pinned (OpenSpec.upto mvccBitsSpec)

end Rows
end Go.Proofs.Ytbadpfcjoobniaa
