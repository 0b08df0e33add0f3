/- (*mvcc.Store).Versions, Ended; the methods of a nil store. -/
import Derived.Test.YtdkkpkgfiodlbaaMvClone
namespace Go.Proofs.Ytdkkpkgfiodlbaa
open Go.RowKit Go.Maps
theorem zero_end (w : World) : (zeroValue 31).run Try.prog w = .ok (.agg #[vi 0, .bool false, vi 0]) w := by kernel_rfl
theorem lookup_ends {w : World} {me : Nat} {E : EndL} (h : MapE w me E) {txn : Int} (hk : i64 txn) :
    (Instr.lookup 44 (.map (some me)) (vi txn) true).run Try.prog w = .ok (.tuple #[.agg #[vi ((getM E txn).getD ⟨0, false, 0⟩).txn, .bool ((getM E txn).getD ⟨0, false, 0⟩).commit, vi ((getM E txn).getD ⟨0, false, 0⟩).at_], .bool (getM E txn).isSome]) w := by
  obtain ⟨kl, hkl⟩ := intKey hk
  have h1 := (h.lookup intKeyed vi_inj (t := 44) (e := 31) Try.underlying44 txn hkl (zero_end w)).2
  have e : ((getM E txn).map endV).getD (.agg #[vi 0, .bool false, vi 0]) = endV ((getM E txn).getD ⟨0, false, 0⟩) := by cases getM E txn <;> rfl
  rw [e] at h1
  exact h1

end Go.Proofs.Ytdkkpkgfiodlbaa