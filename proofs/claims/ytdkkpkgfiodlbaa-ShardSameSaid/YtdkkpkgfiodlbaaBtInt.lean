/- (*bits.Writer).Int. -/
import Derived.Test.YtdkkpkgfiodlbaaBtNum
namespace Go.Proofs.Ytdkkpkgfiodlbaa
open Go.RowKit
/-- A number that may be below nought, as one that is not. -/
def zig (z : Int) : Nat := if z < 0 then (-(z + 1)).toNat * 2 + 1 else z.toNat * 2
def intL (z : Int) : List Bool := numL (zig z)
theorem zig_lt {z : Int} (h1 : -9223372036854775808 ≤ z) (h2 : z ≤ 9223372036854775807) : zig z < 18446744073709551616 := by
  unfold zig; split <;> omega
theorem xor_ones (m : Nat) (h : m < 18446744073709551616) : m ^^^ 18446744073709551615 = 18446744073709551615 - m := by
  have e := congrArg BitVec.toNat (BitVec.xor_allOnes (x := BitVec.ofNat 64 m))
  rw [BitVec.toNat_xor, BitVec.toNat_not, BitVec.toNat_allOnes, BitVec.toNat_ofNat, Nat.mod_eq_of_lt (by omega)] at e
  have e2 : (2 ^ 64 - 1 : Nat) = 18446744073709551615 := by decide
  rw [e2] at e; exact e
theorem zig_bits {z : Int} (h1 : -9223372036854775808 ≤ z) (h2 : z ≤ 9223372036854775807) : bits .xor .u64 (IntKind.u64.wrap (IntKind.u64.wrap z * 2)) (IntKind.u64.wrap (z / 9223372036854775808)) = (zig z : Int) := by
  rw [IntKind.wrap_u64, IntKind.wrap_u64, IntKind.wrap_u64]
  unfold zig
  by_cases h : z < 0
  · rw [if_pos h]
    have e1 : z % 18446744073709551616 * 2 % 18446744073709551616 = ((18446744073709551616 + 2 * z).toNat : Int) := by omega
    have e2 : z / 9223372036854775808 % 18446744073709551616 = ((18446744073709551615 : Nat) : Int) := by omega
    rw [e1, e2, u64_xor_nat _ _ (by omega) (by decide), xor_ones _ (by omega)]
    omega
  · rw [if_neg h]
    have e1 : z % 18446744073709551616 * 2 % 18446744073709551616 = ((z.toNat * 2 : Nat) : Int) := by omega
    have e2 : z / 9223372036854775808 % 18446744073709551616 = ((0 : Nat) : Int) := by omega
    rw [e1, e2, u64_xor_nat _ _ (by omega) (by decide), Nat.xor_zero]
set_option maxRecDepth 100000 in
set_option maxHeartbeats 4000000 in
theorem int_call {base p : Nat} {L : List Bool} (z : Int) (w : World) (h : WrS base p L w) (h1 : -9223372036854775808 ≤ z) (h2 : z ≤ 9223372036854775807) (hL : L.length ≤ 1048000) (hb : base ≤ w.heap.size) :
    Calls Try.prog 33 #[.pointer (some ⟨p, 0, none⟩), .int .i64 z] w (PutQ base p (L ++ intL z) w) := by
  have HW := Lib.hid h
  clear h
  go_enter Try.func33, Try.ntmps33
  have hz := zig_bits h1 h2
  have hlt := zig_lt h1 h2
  go_wp2_with (go_at_call 54; (try rw [hz]); refine (num_call (L := L) (zig z) w HW.out hlt hL hb).mono ?_; rintro e1 w1 ⟨rfl, hw1, hf1⟩; have HW1 := Lib.hid hw1; have HF1 := Lib.hid hf1; clear hw1 hf1)
  go_end0
  exact ⟨rfl, HW1.out, HF1.out⟩

end Go.Proofs.Ytdkkpkgfiodlbaa