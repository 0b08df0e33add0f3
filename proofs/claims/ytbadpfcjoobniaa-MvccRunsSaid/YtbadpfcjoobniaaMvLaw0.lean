/- The law's own small words: w. -/
import Derived.Test.YtbadpfcjoobniaaMvNil
namespace Go.Proofs.Ytbadpfcjoobniaa
open Go.RowKit Go.Maps

set_option maxRecDepth 100000 in
set_option maxHeartbeats 1000000 in
theorem w_call (key val : Int) (w : World) : Calls Try.prog 16 #[vi key, vi val] w fun e w' => e = .returned (.slice (some ⟨w.heap.size, 0, none⟩) 1 1) ∧ w' = w.alloc (.cells #[vi 2, vi key, vi val] 55) := by
  go_enter Try.func16, Try.ntmps16
  go_wp2_with fail
  go_ret
  exact ⟨rfl, rfl⟩
theorem w_rd (key val : Int) (w : World) : RdOps (w.alloc (.cells #[vi 2, vi key, vi val] 55)) (.slice (some ⟨w.heap.size, 0, none⟩) 1 1) [⟨2, key, val⟩] := by
  refine ⟨some ⟨w.heap.size, 0, none⟩, 1, 1, rfl, rfl, by simp, Nat.le_refl _, (fun h => by cases h), fun j x hj => ?_⟩
  have hj0 : j = 0 := by have := (List.getElem?_eq_some_iff.1 hj).1; simp at this; omega
  subst hj0
  simp at hj; subst hj
  refine ⟨w.heap.size, 0, opV ⟨2, key, val⟩, rfl, rfl, fun i u hu => ?_, rfl⟩
  rw [cell_of (alloc_at _ _)]
  have : i < 3 := (List.getElem?_eq_some_iff.1 hu).1
  rcases (show i = 0 ∨ i = 1 ∨ i = 2 by omega) with rfl | rfl | rfl <;> exact hu
end Go.Proofs.Ytbadpfcjoobniaa
