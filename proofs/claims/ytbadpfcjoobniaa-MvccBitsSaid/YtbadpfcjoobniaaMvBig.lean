/- big. -/
import Derived.Test.YtbadpfcjoobniaaMvTwo
namespace Go.Proofs.Ytbadpfcjoobniaa
open Go.RowKit Go.Maps

def bigB (r : Rdy) : Bool := decide (20 < r.writes.length) || decide (20 < r.reads.length)
set_option maxRecDepth 100000 in
set_option maxHeartbeats 1000000 in
theorem big_call (k t at_ : Int) (c : Bool) (aw ar : Option Addr) (cw cr : Nat) (r : Rdy) (w : World) (hw : r.writes.length ≤ 9223372036854775807) (hr : r.reads.length ≤ 9223372036854775807) :
    Calls Try.prog 11 #[.agg #[vi k, vi r.txn, vi r.home, vi r.start, .slice aw r.writes.length cw, .slice ar r.reads.length cr, vi t, .bool c, vi at_]] w fun e w' => e = .returned (.bool (bigB r)) ∧ Below w.heap.size w w' := by
  by_cases h1 : 20 < r.writes.length
  · have h1' : (20 : Int) < (r.writes.length : Int) := by omega
    have HB := Lib.hid (show bigB r = true by simp [bigB, h1])
    clear h1
    go_enter Try.func11, Try.ntmps11
    go_wp2_with fail
    go_ret
    exact ⟨by rw [HB.out]; rfl, (Below.refl _ _).alloc (Nat.le_refl _) _⟩
  · have h1' : ¬ (20 : Int) < (r.writes.length : Int) := by omega
    by_cases h2 : 20 < r.reads.length
    · have h2' : (20 : Int) < (r.reads.length : Int) := by omega
      have HB := Lib.hid (show bigB r = true by simp [bigB, h2])
      clear h1 h2
      go_enter Try.func11, Try.ntmps11
      go_wp2_with fail
      go_ret
      exact ⟨by rw [HB.out]; rfl, (Below.refl _ _).alloc (Nat.le_refl _) _⟩
    · have h2' : ¬ (20 : Int) < (r.reads.length : Int) := by omega
      have HB := Lib.hid (show bigB r = false by simp [bigB, h1, h2])
      clear h1 h2
      go_enter Try.func11, Try.ntmps11
      go_wp2_with fail
      go_ret
      exact ⟨by rw [HB.out]; rfl, (Below.refl _ _).alloc (Nat.le_refl _) _⟩
theorem bigB_false {r : Rdy} (h : bigB r = false) : r.writes.length ≤ 20 ∧ r.reads.length ≤ 20 := by
  unfold bigB at h
  rw [Bool.or_eq_false_iff] at h
  simp at h; exact h
end Go.Proofs.Ytbadpfcjoobniaa
