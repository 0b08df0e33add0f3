/- slices.SortFunc of no element. -/
import Derived.Test.YthpdenmbcjngkaaLnHead
namespace Go.Proofs.Ythpdenmbcjngkaa
open Go.RowKit Go.Maps

set_option maxRecDepth 100000 in
set_option maxHeartbeats 1000000 in
theorem insertion_none (a : Option Addr) (c : Nat) (f : Value) (w : World) : Calls Try.prog 38 #[.slice a 0 c, vi 0, vi 0, f] w fun e w' => e = .returned (.tuple #[]) ∧ Below w.heap.size w w' := by
  go_enter Try.func38, Try.ntmps38
  go_wp2_with fail
  go_loopw [8, 9] (fun i _ wr => i = vi 1 ∧ wr = w) (fun _ _ _ => 0)
  case atStart => exact ⟨rfl, rfl⟩
  case round =>
    obtain ⟨rfl, rfl⟩ := hrel
    go_wp2_with fail
    go_end0
    exact ⟨rfl, Below.refl _ _⟩

set_option maxRecDepth 100000 in
set_option maxHeartbeats 1000000 in
theorem len64_none (w : World) : Calls Try.prog 47 #[.int .u64 0] w fun e w' => e = .returned (vi 0) ∧ Below w.heap.size w w' := by
  go_enter Try.func47, Try.ntmps47
  go_wp2_with fail
  go_ret
  exact ⟨by kernel_rfl, Below.refl _ _⟩

set_option maxRecDepth 100000 in
set_option maxHeartbeats 1000000 in
theorem pdq_none (a : Option Addr) (c : Nat) (n : Int) (f : Value) (w : World) : Calls Try.prog 36 #[.slice a 0 c, vi 0, vi 0, vi n, f] w fun e w' => e = .returned (.tuple #[]) ∧ Below w.heap.size w w' := by
  go_enter Try.func36, Try.ntmps36
  go_wp2_with fail
  go_loopw [1, 2, 3, 10, 11, 12, 13, 14, 15, 16, 17, 18, 19, 20] (fun i j _ _ _ _ _ _ _ _ _ _ _ _ wr => i = vi 0 ∧ j = vi 0 ∧ wr = w) (fun _ _ _ _ _ _ _ _ _ _ _ _ _ _ _ => 0)
  case atStart => exact ⟨rfl, rfl, rfl⟩
  case round =>
    obtain ⟨rfl, rfl, rfl⟩ := hrel
    go_wp2_with (go_at_call 38; refine (insertion_none a c _ _).mono ?_; rintro e w1 ⟨rfl, hb1⟩)
    refine bodyPost_ret (v := .tuple #[]) (by simp [results, Try.results36, go_sem]) rfl ⟨rfl, hb1⟩

set_option maxRecDepth 100000 in
set_option maxHeartbeats 1000000 in
theorem len_none (w : World) : Calls Try.prog 37 #[.int .u64 0] w fun e w' => e = .returned (vi 0) ∧ Below w.heap.size w w' := by
  go_enter Try.func37, Try.ntmps37
  go_wp2_with (go_at_call 47; refine (len64_none _).mono ?_; rintro e w1 ⟨rfl, hb1⟩)
  go_ret
  exact ⟨rfl, hb1⟩

set_option maxRecDepth 100000 in
set_option maxHeartbeats 1000000 in
theorem sortFunc_none (a : Option Addr) (c : Nat) (f : Value) (w : World) : Calls Try.prog 32 #[.slice a 0 c, f] w fun e w' => e = .returned (.tuple #[]) ∧ Below w.heap.size w w' := by
  go_enter Try.func32, Try.ntmps32
  go_wp2_with (first
    | (go_at_call 37; refine (len_none _).mono ?_; rintro e w1 ⟨rfl, hb1⟩)
    | (go_at_call 36; refine (pdq_none a c 0 _ _).mono ?_; rintro e w2 ⟨rfl, hb2⟩))
  go_end0
  exact ⟨rfl, hb1.trans (hb2.mono hb1.size)⟩
end Go.Proofs.Ythpdenmbcjngkaa
