/- (*bits.Writer).Num. -/
import Derived.Test.YtdkkpkgfiodlbaaBtLen
namespace Go.Proofs.Ytdkkpkgfiodlbaa
open Go.RowKit
/-- A number's bits. -/
def numL (x : Nat) : List Bool :=
  if x = 18446744073709551615 then putL 0 64 ++ putL 1 1 ++ putL 0 64
  else putL 0 (Lib.bitLen (x + 1) - 1) ++ putL (x + 1) (Lib.bitLen (x + 1))
theorem numL_length (x : Nat) (h : x < 18446744073709551616) : (numL x).length ≤ 129 := by
  unfold numL
  split
  · simp [putL_length]
  · have := Lib.bitLen_le (x + 1) 64 (by decide) (by omega)
    simp [putL_length]; omega
theorem bitLen_pos {x : Nat} (h : x ≠ 0) (h2 : x < 2 ^ 64) : 1 ≤ Lib.bitLen x := by rw [Lib.bitLen_half x h h2]; omega
def NumQ (base p : Nat) (L : List Bool) (w : World) (e : Ending) (w' : World) : Prop := e = .returned (.tuple #[]) ∧ WrS base p L w' ∧ FrW base p w w'

set_option maxRecDepth 100000 in
set_option maxHeartbeats 4000000 in
theorem num_call {base p : Nat} {L : List Bool} (x : Nat) (w : World) (h : WrS base p L w) (hx : x < 18446744073709551616) (hL : L.length ≤ 1048000) (hb : base ≤ w.heap.size) :
    Calls Try.prog 54 #[.pointer (some ⟨p, 0, none⟩), .int .u64 x] w (PutQ base p (L ++ numL x) w) := by
  have HW := Lib.hid h
  clear h
  go_enter Try.func54, Try.ntmps54
  by_cases hm : x = 18446744073709551615
  · have hN := Lib.hid (show numL x = putL 0 64 ++ putL 1 1 ++ putL 0 64 by unfold numL; rw [if_pos hm])
    have hb1 : ((x : Int) == 18446744073709551615) = true := by subst hm; rfl
    clear hm
    go_wp2_with (first
      | (go_at_call 72; refine (put_call (L := L ++ putL 0 64 ++ putL 1 1) 0 64 w2 HW2.out (by decide) (by decide) (by simp [putL_length]; omega) (by omega)).mono ?_; rintro e3 w3 ⟨rfl, hw3, hf3⟩; have HW3 := Lib.hid hw3; have HF3 := Lib.hid hf3; clear hw3 hf3)
      | (go_at_call 72; refine (put_call (L := L ++ putL 0 64) 1 1 w1 HW1.out (by decide) (by decide) (by simp [putL_length]; omega) (by omega)).mono ?_; rintro e2 w2 ⟨rfl, hw2, hf2⟩; have HW2 := Lib.hid hw2; have HF2 := Lib.hid hf2; have hz2 := hf2.size; clear hw2 hf2)
      | (go_at_call 72; refine (put_call (L := L) 0 64 w HW.out (by decide) (by decide) (by omega) hb).mono ?_; rintro e1 w1 ⟨rfl, hw1, hf1⟩; have HW1 := Lib.hid hw1; have HF1 := Lib.hid hf1; have hz1 := hf1.size; clear hw1 hf1))
    (try simp only [Exit.inBlock, Exit.then])
    refine bodyPost_ret (results_none rfl _ _ _) rfl ?_
    refine ⟨rfl, ?_, (HF1.out.trans HF2.out).trans HF3.out⟩
    rw [hN.out, ← List.append_assoc, ← List.append_assoc]; exact HW3.out
  · have hN := Lib.hid (show numL x = putL 0 (Lib.bitLen (x + 1) - 1) ++ putL (x + 1) (Lib.bitLen (x + 1)) by unfold numL; rw [if_neg hm])
    have hb1 : ((x : Int) == 18446744073709551615) = false := by simp; omega
    have hlt : x + 1 < 18446744073709551616 := by omega
    have hw1 : IntKind.u64.wrap ((x : Int) + 1) = (x : Int) + 1 := by rw [IntKind.wrap_u64]; omega
    have hp := bitLen_pos (x := x + 1) (by omega) hlt
    have hle := Lib.bitLen_le (x + 1) 64 (by decide) hlt
    have hcs : ((Lib.bitLen (x + 1) : Int) - 1) = ((Lib.bitLen (x + 1) - 1 : Nat) : Int) := by omega
    have htn : ((x : Int) + 1).toNat = x + 1 := by omega
    clear hm
    go_wp2_with (first
      | (go_at_call 72; refine (put_call (L := L ++ putL 0 (Lib.bitLen (x + 1) - 1)) (x + 1) (Lib.bitLen (x + 1)) w1 HW1.out (by omega) (by omega) (by simp [putL_length]; omega) (by omega)).mono ?_; rintro e2 w2 ⟨rfl, hw2, hf2⟩; have HW2 := Lib.hid hw2; have HF2 := Lib.hid hf2; clear hw2 hf2)
      | (go_at_call 72; (try rw [hcs]); refine (put_call (L := L) 0 (Lib.bitLen (x + 1) - 1) w0 HW.out (by decide) (by omega) (by omega) hb).mono ?_; rintro e1 w1 ⟨rfl, hw1, hf1⟩; have HW1 := Lib.hid hw1; have HF1 := Lib.hid hf1; have hz1 := hf1.size; clear hw1 hf1)
      | (go_at_call 82; refine (len64_call ((x : Int) + 1) w (by omega) (by omega)).mono ?_; rintro e0 w0 ⟨rfl, rfl⟩; rw [htn]))


    go_end0
    refine ⟨rfl, ?_, HF1.out.trans HF2.out⟩
    rw [hN.out, ← List.append_assoc]; exact HW2.out
end Go.Proofs.Ytdkkpkgfiodlbaa