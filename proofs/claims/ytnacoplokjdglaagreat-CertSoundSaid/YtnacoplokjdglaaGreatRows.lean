/-
  NARROWER THAN 'FOR EVERY INPUT', by the rows' own cells (each row's printed sentence says how): CertSound: maps.
  DERIVED. THE GIVEN ROWS OF THIS SEAT. 10 by the template 'for every input the law returns true; each argument reads behind the call as it read before'; 0 by the template 'total and deterministic' (their statements: YtnacoplokjdglaaGreatTotals.lean).
  GIVEN WITH THE SEED: the statements are not yours to turn. If you find one false, say at which input.
  Laid BY PROGRAM, IN A SANDBOX (cutbox-rows.mjs): the forced cells as the released guide's own fill.sh prints them over the translation e8c30732cdb65034… (all of the seat's roots in one cut). By AI agents, Wed Nov 11 2026. No macro, syntax, notation, axiom, sorry.
-/
import Derived.Test.YtnacoplokjdglaaGreatChecked
import GoSem.Claim
import GoSem.ClaimJoined
import GoSem.ClaimMapViews
import Derived.JoinedTies
import Derived.KernelRfl
namespace Go.Proofs.YtnacoplokjdglaaGreat
/- THE CELL 'sum', in the pinned program and in every row, IS THE sha256 OF THE DUMP (.gsa) THAT YtnacoplokjdglaaGreatProg.lean LOADS. Nothing in Lean hashes anything: it is a label: what it is worth is what the hold of that sum in a sandbox is worth. -/
noncomputable def Tryz.pinned : Pinned := { name := "ytnacoplokjdglaagreat", sum := "e8c30732cdb65034d2b0da6463c6005c84b4dcd33af925c88b9e3dcede715b5c", checked := Tryz.checked }
namespace Rows
def none {H : Type} : Left H := { results := [], args := [] }

/-- 'cruciblelaw11.CheckDecides': WHATEVER THE INPUT: true; the input reads as it did. -/
def checkDecidesSpec : ChangeSpec := { name := "checkDecides", fn := fun _ => fun
  | [d1, d2] => { results := [.lit (.bool true)], args := [d1, d2] }
  | _ => none }
def checkDecidesRow : OpenClaim := { program := "ytnacoplokjdglaagreat", sum := "e8c30732cdb65034d2b0da6463c6005c84b4dcd33af925c88b9e3dcede715b5c", func := "crucible/cruciblelaw11.CheckDecides", spec := "checkDecides", unfollowed := true, recurses := true, plainKeys := false, apart := false }
def CheckDecidesSaid : Prop := checkDecidesRow.holds Tryz.pinned (OpenSpec.ofChange checkDecidesSpec)

/-- ITS FALSE NEIGHBOUR: 'it returns false'. Refute it at one input. -/
def checkDecidesWrong : ChangeSpec := { name := "checkDecides", fn := fun _ => fun
  | [d1, d2] => { results := [.lit (.bool false)], args := [d1, d2] }
  | _ => none }
def CheckDecidesWrongFalsely : Prop := checkDecidesRow.holds Tryz.pinned (OpenSpec.ofChange checkDecidesWrong)

/-- 'cruciblelaw11.CheckFlaws': WHATEVER THE INPUT: true; the input reads as it did. -/
def checkFlawsSpec : ChangeSpec := { name := "checkFlaws", fn := fun _ => fun
  | [d1, d2] => { results := [.lit (.bool true)], args := [d1, d2] }
  | _ => none }
def checkFlawsRow : OpenClaim := { program := "ytnacoplokjdglaagreat", sum := "e8c30732cdb65034d2b0da6463c6005c84b4dcd33af925c88b9e3dcede715b5c", func := "crucible/cruciblelaw11.CheckFlaws", spec := "checkFlaws", unfollowed := true, recurses := true, plainKeys := false, apart := false }
def CheckFlawsSaid : Prop := checkFlawsRow.holds Tryz.pinned (OpenSpec.ofChange checkFlawsSpec)

/-- ITS FALSE NEIGHBOUR: 'it returns false'. Refute it at one input. -/
def checkFlawsWrong : ChangeSpec := { name := "checkFlaws", fn := fun _ => fun
  | [d1, d2] => { results := [.lit (.bool false)], args := [d1, d2] }
  | _ => none }
def CheckFlawsWrongFalsely : Prop := checkFlawsRow.holds Tryz.pinned (OpenSpec.ofChange checkFlawsWrong)

/-- 'cruciblelaw11.CheckAlone': WHATEVER THE INPUT: true; the input reads as it did. -/
def checkAloneSpec : ChangeSpec := { name := "checkAlone", fn := fun _ => fun
  | [d1, d2, d3] => { results := [.lit (.bool true)], args := [d1, d2, d3] }
  | _ => none }
def checkAloneRow : OpenClaim := { program := "ytnacoplokjdglaagreat", sum := "e8c30732cdb65034d2b0da6463c6005c84b4dcd33af925c88b9e3dcede715b5c", func := "crucible/cruciblelaw11.CheckAlone", spec := "checkAlone", unfollowed := true, recurses := true, plainKeys := false, apart := false }
def CheckAloneSaid : Prop := checkAloneRow.holds Tryz.pinned (OpenSpec.ofChange checkAloneSpec)

/-- ITS FALSE NEIGHBOUR: 'it returns false'. Refute it at one input. -/
def checkAloneWrong : ChangeSpec := { name := "checkAlone", fn := fun _ => fun
  | [d1, d2, d3] => { results := [.lit (.bool false)], args := [d1, d2, d3] }
  | _ => none }
def CheckAloneWrongFalsely : Prop := checkAloneRow.holds Tryz.pinned (OpenSpec.ofChange checkAloneWrong)

/-- 'cruciblelaw11.CheckRoom': WHATEVER THE INPUT: true; the input reads as it did. -/
def checkRoomSpec : ChangeSpec := { name := "checkRoom", fn := fun _ => fun
  | [d1, d2] => { results := [.lit (.bool true)], args := [d1, d2] }
  | _ => none }
def checkRoomRow : OpenClaim := { program := "ytnacoplokjdglaagreat", sum := "e8c30732cdb65034d2b0da6463c6005c84b4dcd33af925c88b9e3dcede715b5c", func := "crucible/cruciblelaw11.CheckRoom", spec := "checkRoom", unfollowed := true, recurses := true, plainKeys := false, apart := false }
def CheckRoomSaid : Prop := checkRoomRow.holds Tryz.pinned (OpenSpec.ofChange checkRoomSpec)

/-- ITS FALSE NEIGHBOUR: 'it returns false'. Refute it at one input. -/
def checkRoomWrong : ChangeSpec := { name := "checkRoom", fn := fun _ => fun
  | [d1, d2] => { results := [.lit (.bool false)], args := [d1, d2] }
  | _ => none }
def CheckRoomWrongFalsely : Prop := checkRoomRow.holds Tryz.pinned (OpenSpec.ofChange checkRoomWrong)

/-- 'cruciblelaw11.CheckBudgets': WHATEVER THE INPUT: true; the input reads as it did. -/
def checkBudgetsSpec : ChangeSpec := { name := "checkBudgets", fn := fun _ => fun
  | [d1, d2, d3] => { results := [.lit (.bool true)], args := [d1, d2, d3] }
  | _ => none }
def checkBudgetsRow : OpenClaim := { program := "ytnacoplokjdglaagreat", sum := "e8c30732cdb65034d2b0da6463c6005c84b4dcd33af925c88b9e3dcede715b5c", func := "crucible/cruciblelaw11.CheckBudgets", spec := "checkBudgets", unfollowed := true, recurses := true, plainKeys := false, apart := false }
def CheckBudgetsSaid : Prop := checkBudgetsRow.holds Tryz.pinned (OpenSpec.ofChange checkBudgetsSpec)

/-- ITS FALSE NEIGHBOUR: 'it returns false'. Refute it at one input. -/
def checkBudgetsWrong : ChangeSpec := { name := "checkBudgets", fn := fun _ => fun
  | [d1, d2, d3] => { results := [.lit (.bool false)], args := [d1, d2, d3] }
  | _ => none }
def CheckBudgetsWrongFalsely : Prop := checkBudgetsRow.holds Tryz.pinned (OpenSpec.ofChange checkBudgetsWrong)

/-- 'cruciblelaw12.CertSound': WHATEVER THE INPUT: true; the input reads as it did. -/
def certSoundSpec : ChangeSpec := { name := "certSound", fn := fun _ => fun
  | [d1, d2, d3] => { results := [.lit (.bool true)], args := [d1, d2, d3] }
  | _ => none }
def certSoundRow : OpenClaim := { program := "ytnacoplokjdglaagreat", sum := "e8c30732cdb65034d2b0da6463c6005c84b4dcd33af925c88b9e3dcede715b5c", func := "crucible/cruciblelaw12.CertSound", spec := "certSound", unfollowed := true, recurses := true, maps := true, plainKeys := false, apart := false }
def CertSoundSaid : Prop := certSoundRow.holds Tryz.pinned (OpenSpec.ofChange certSoundSpec)

/-- ITS FALSE NEIGHBOUR: 'it returns false'. Refute it at one input. -/
def certSoundWrong : ChangeSpec := { name := "certSound", fn := fun _ => fun
  | [d1, d2, d3] => { results := [.lit (.bool false)], args := [d1, d2, d3] }
  | _ => none }
def CertSoundWrongFalsely : Prop := certSoundRow.holds Tryz.pinned (OpenSpec.ofChange certSoundWrong)

/-- 'cruciblelaw12.CertPasses': WHATEVER THE INPUT: true; the input reads as it did. -/
def certPassesSpec : ChangeSpec := { name := "certPasses", fn := fun _ => fun
  | [d1, d2, d3, d4, d5] => { results := [.lit (.bool true)], args := [d1, d2, d3, d4, d5] }
  | _ => none }
def certPassesRow : OpenClaim := { program := "ytnacoplokjdglaagreat", sum := "e8c30732cdb65034d2b0da6463c6005c84b4dcd33af925c88b9e3dcede715b5c", func := "crucible/cruciblelaw12.CertPasses", spec := "certPasses", unfollowed := true, recurses := true, plainKeys := false, apart := false }
def CertPassesSaid : Prop := certPassesRow.holds Tryz.pinned (OpenSpec.ofChange certPassesSpec)

/-- ITS FALSE NEIGHBOUR: 'it returns false'. Refute it at one input. -/
def certPassesWrong : ChangeSpec := { name := "certPasses", fn := fun _ => fun
  | [d1, d2, d3, d4, d5] => { results := [.lit (.bool false)], args := [d1, d2, d3, d4, d5] }
  | _ => none }
def CertPassesWrongFalsely : Prop := certPassesRow.holds Tryz.pinned (OpenSpec.ofChange certPassesWrong)

/-- 'cruciblelaw12.CertFlaws': WHATEVER THE INPUT: true; the input reads as it did. -/
def certFlawsSpec : ChangeSpec := { name := "certFlaws", fn := fun _ => fun
  | [d1, d2] => { results := [.lit (.bool true)], args := [d1, d2] }
  | _ => none }
def certFlawsRow : OpenClaim := { program := "ytnacoplokjdglaagreat", sum := "e8c30732cdb65034d2b0da6463c6005c84b4dcd33af925c88b9e3dcede715b5c", func := "crucible/cruciblelaw12.CertFlaws", spec := "certFlaws", unfollowed := true, recurses := true, plainKeys := false, apart := false }
def CertFlawsSaid : Prop := certFlawsRow.holds Tryz.pinned (OpenSpec.ofChange certFlawsSpec)

/-- ITS FALSE NEIGHBOUR: 'it returns false'. Refute it at one input. -/
def certFlawsWrong : ChangeSpec := { name := "certFlaws", fn := fun _ => fun
  | [d1, d2] => { results := [.lit (.bool false)], args := [d1, d2] }
  | _ => none }
def CertFlawsWrongFalsely : Prop := certFlawsRow.holds Tryz.pinned (OpenSpec.ofChange certFlawsWrong)

/-- 'cruciblelaw12.CertComplete': WHATEVER THE INPUT: true; the input reads as it did. -/
def certCompleteSpec : ChangeSpec := { name := "certComplete", fn := fun _ => fun
  | [d1, d2, d3] => { results := [.lit (.bool true)], args := [d1, d2, d3] }
  | _ => none }
def certCompleteRow : OpenClaim := { program := "ytnacoplokjdglaagreat", sum := "e8c30732cdb65034d2b0da6463c6005c84b4dcd33af925c88b9e3dcede715b5c", func := "crucible/cruciblelaw12.CertComplete", spec := "certComplete", unfollowed := true, recurses := true, plainKeys := false, apart := false }
def CertCompleteSaid : Prop := certCompleteRow.holds Tryz.pinned (OpenSpec.ofChange certCompleteSpec)

/-- ITS FALSE NEIGHBOUR: 'it returns false'. Refute it at one input. -/
def certCompleteWrong : ChangeSpec := { name := "certComplete", fn := fun _ => fun
  | [d1, d2, d3] => { results := [.lit (.bool false)], args := [d1, d2, d3] }
  | _ => none }
def CertCompleteWrongFalsely : Prop := certCompleteRow.holds Tryz.pinned (OpenSpec.ofChange certCompleteWrong)

/-- 'cruciblelaw12.CertTurned': WHATEVER THE INPUT: true; the input reads as it did. -/
def certTurnedSpec : ChangeSpec := { name := "certTurned", fn := fun _ => fun
  | [d1, d2, d3] => { results := [.lit (.bool true)], args := [d1, d2, d3] }
  | _ => none }
def certTurnedRow : OpenClaim := { program := "ytnacoplokjdglaagreat", sum := "e8c30732cdb65034d2b0da6463c6005c84b4dcd33af925c88b9e3dcede715b5c", func := "crucible/cruciblelaw12.CertTurned", spec := "certTurned", unfollowed := true, recurses := true, plainKeys := false, apart := false }
def CertTurnedSaid : Prop := certTurnedRow.holds Tryz.pinned (OpenSpec.ofChange certTurnedSpec)

/-- ITS FALSE NEIGHBOUR: 'it returns false'. Refute it at one input. -/
def certTurnedWrong : ChangeSpec := { name := "certTurned", fn := fun _ => fun
  | [d1, d2, d3] => { results := [.lit (.bool false)], args := [d1, d2, d3] }
  | _ => none }
def CertTurnedWrongFalsely : Prop := certTurnedRow.holds Tryz.pinned (OpenSpec.ofChange certTurnedWrong)

/- THE SECOND FORM. 'bulk': how many values and letters a reading holds, each counted each time it is reached (what is shared counts as often as it is met; a slice's spare places count too). A statement '..UptoSaid' is the law's where the arguments, and the package variables that the reading takes, are together of bulk at most 1048576: NARROWER than '..Said'. Prove '..Said' where nothing that the law and all that it calls make is longer than what came in: it says more and counts as full. Else prove '..UptoSaid'. A law counts once. -/
mutual
def uptoBulk {H : Type} : DataW H → Nat
  | .lit (.string bytes) => bytes.length + 1
  | .lit _ => 1
  | .nil => 1
  | .ptr d => uptoBulk d + 1
  | .slice elems spare => uptoBulkAll elems + uptoBulkAll spare + 1
  | .agg parts => uptoBulkAll parts + 1
  | .iface _ d => uptoBulk d + 1
  | .map entries => uptoBulkEntries entries + 1
  | .held _ => 1
def uptoBulkAll {H : Type} : List (DataW H) → Nat
  | [] => 0
  | d :: r => uptoBulk d + uptoBulkAll r
def uptoBulkEntries {H : Type} : List (Lit × DataW H) → Nat
  | [] => 0
  | x :: r => uptoBulkEntry x + uptoBulkEntries r
def uptoBulkEntry {H : Type} : Lit × DataW H → Nat
  | (.string bytes, d) => bytes.length + uptoBulk d + 1
  | (_, d) => uptoBulk d + 1
 end
def uptoSmall : (H : Type) → List (DataW H) → Bool := fun _ ds => decide (uptoBulkAll ds ≤ 1048576)
def OpenSpec.upto (s : _root_.Go.ChangeSpec) : _root_.Go.OpenSpec := { _root_.Go.OpenSpec.ofChange s with cond := some uptoSmall }

/-- 'cruciblelaw11.CheckDecides', WHERE WHAT IT READS IS OF BULK AT MOST 1048576: true; the input reads as it did. -/
def checkDecidesUptoRow : OpenClaim := { program := "ytnacoplokjdglaagreat", sum := "e8c30732cdb65034d2b0da6463c6005c84b4dcd33af925c88b9e3dcede715b5c", func := "crucible/cruciblelaw11.CheckDecides", spec := "checkDecides", unfollowed := true, recurses := true, plainKeys := false, apart := false, narrowed := true }
def CheckDecidesUptoSaid : Prop := checkDecidesUptoRow.holds Tryz.pinned (OpenSpec.upto checkDecidesSpec)

/-- 'cruciblelaw11.CheckFlaws', WHERE WHAT IT READS IS OF BULK AT MOST 1048576: true; the input reads as it did. -/
def checkFlawsUptoRow : OpenClaim := { program := "ytnacoplokjdglaagreat", sum := "e8c30732cdb65034d2b0da6463c6005c84b4dcd33af925c88b9e3dcede715b5c", func := "crucible/cruciblelaw11.CheckFlaws", spec := "checkFlaws", unfollowed := true, recurses := true, plainKeys := false, apart := false, narrowed := true }
def CheckFlawsUptoSaid : Prop := checkFlawsUptoRow.holds Tryz.pinned (OpenSpec.upto checkFlawsSpec)

/-- 'cruciblelaw11.CheckAlone', WHERE WHAT IT READS IS OF BULK AT MOST 1048576: true; the input reads as it did. -/
def checkAloneUptoRow : OpenClaim := { program := "ytnacoplokjdglaagreat", sum := "e8c30732cdb65034d2b0da6463c6005c84b4dcd33af925c88b9e3dcede715b5c", func := "crucible/cruciblelaw11.CheckAlone", spec := "checkAlone", unfollowed := true, recurses := true, plainKeys := false, apart := false, narrowed := true }
def CheckAloneUptoSaid : Prop := checkAloneUptoRow.holds Tryz.pinned (OpenSpec.upto checkAloneSpec)

/-- 'cruciblelaw11.CheckRoom', WHERE WHAT IT READS IS OF BULK AT MOST 1048576: true; the input reads as it did. -/
def checkRoomUptoRow : OpenClaim := { program := "ytnacoplokjdglaagreat", sum := "e8c30732cdb65034d2b0da6463c6005c84b4dcd33af925c88b9e3dcede715b5c", func := "crucible/cruciblelaw11.CheckRoom", spec := "checkRoom", unfollowed := true, recurses := true, plainKeys := false, apart := false, narrowed := true }
def CheckRoomUptoSaid : Prop := checkRoomUptoRow.holds Tryz.pinned (OpenSpec.upto checkRoomSpec)

/-- 'cruciblelaw11.CheckBudgets', WHERE WHAT IT READS IS OF BULK AT MOST 1048576: true; the input reads as it did. -/
def checkBudgetsUptoRow : OpenClaim := { program := "ytnacoplokjdglaagreat", sum := "e8c30732cdb65034d2b0da6463c6005c84b4dcd33af925c88b9e3dcede715b5c", func := "crucible/cruciblelaw11.CheckBudgets", spec := "checkBudgets", unfollowed := true, recurses := true, plainKeys := false, apart := false, narrowed := true }
def CheckBudgetsUptoSaid : Prop := checkBudgetsUptoRow.holds Tryz.pinned (OpenSpec.upto checkBudgetsSpec)

/-- 'cruciblelaw12.CertSound', WHERE WHAT IT READS IS OF BULK AT MOST 1048576: true; the input reads as it did. -/
def certSoundUptoRow : OpenClaim := { program := "ytnacoplokjdglaagreat", sum := "e8c30732cdb65034d2b0da6463c6005c84b4dcd33af925c88b9e3dcede715b5c", func := "crucible/cruciblelaw12.CertSound", spec := "certSound", unfollowed := true, recurses := true, maps := true, plainKeys := false, apart := false, narrowed := true }
def CertSoundUptoSaid : Prop := certSoundUptoRow.holds Tryz.pinned (OpenSpec.upto certSoundSpec)

/-- 'cruciblelaw12.CertPasses', WHERE WHAT IT READS IS OF BULK AT MOST 1048576: true; the input reads as it did. -/
def certPassesUptoRow : OpenClaim := { program := "ytnacoplokjdglaagreat", sum := "e8c30732cdb65034d2b0da6463c6005c84b4dcd33af925c88b9e3dcede715b5c", func := "crucible/cruciblelaw12.CertPasses", spec := "certPasses", unfollowed := true, recurses := true, plainKeys := false, apart := false, narrowed := true }
def CertPassesUptoSaid : Prop := certPassesUptoRow.holds Tryz.pinned (OpenSpec.upto certPassesSpec)

/-- 'cruciblelaw12.CertFlaws', WHERE WHAT IT READS IS OF BULK AT MOST 1048576: true; the input reads as it did. -/
def certFlawsUptoRow : OpenClaim := { program := "ytnacoplokjdglaagreat", sum := "e8c30732cdb65034d2b0da6463c6005c84b4dcd33af925c88b9e3dcede715b5c", func := "crucible/cruciblelaw12.CertFlaws", spec := "certFlaws", unfollowed := true, recurses := true, plainKeys := false, apart := false, narrowed := true }
def CertFlawsUptoSaid : Prop := certFlawsUptoRow.holds Tryz.pinned (OpenSpec.upto certFlawsSpec)

/-- 'cruciblelaw12.CertComplete', WHERE WHAT IT READS IS OF BULK AT MOST 1048576: true; the input reads as it did. -/
def certCompleteUptoRow : OpenClaim := { program := "ytnacoplokjdglaagreat", sum := "e8c30732cdb65034d2b0da6463c6005c84b4dcd33af925c88b9e3dcede715b5c", func := "crucible/cruciblelaw12.CertComplete", spec := "certComplete", unfollowed := true, recurses := true, plainKeys := false, apart := false, narrowed := true }
def CertCompleteUptoSaid : Prop := certCompleteUptoRow.holds Tryz.pinned (OpenSpec.upto certCompleteSpec)

/-- 'cruciblelaw12.CertTurned', WHERE WHAT IT READS IS OF BULK AT MOST 1048576: true; the input reads as it did. -/
def certTurnedUptoRow : OpenClaim := { program := "ytnacoplokjdglaagreat", sum := "e8c30732cdb65034d2b0da6463c6005c84b4dcd33af925c88b9e3dcede715b5c", func := "crucible/cruciblelaw12.CertTurned", spec := "certTurned", unfollowed := true, recurses := true, plainKeys := false, apart := false, narrowed := true }
def CertTurnedUptoSaid : Prop := certTurnedUptoRow.holds Tryz.pinned (OpenSpec.upto certTurnedSpec)

end Rows
end Go.Proofs.YtnacoplokjdglaaGreat
