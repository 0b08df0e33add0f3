/- chains.Bound. -/
import Derived.Test.YtafboehdihokhaaChoices
namespace Go.Proofs.Ytafboehdihokhaa
open Go.RowKit Go.Maps

def boundM (n : Nat) : Int := 2 ^ (min n 40 + 1) - 1

theorem choicesM_le (ts : List GTxn) (h : ts.length ≤ 4096) : (choicesM ts).length ≤ 4294967296 := by
  unfold choicesM
  rw [List.length_append]
  have h1 := cmS_le (sureM ts) ts ts.length
  have h2 := befK_le ts h 16
  omega

theorem pow_le40 {n : Nat} (h : n ≤ 40) : (1 : Int) ≤ 2 ^ n ∧ (2 : Int) ^ n ≤ 1099511627776 := by
  have h1 : 2 ^ n ≤ 2 ^ 40 := Nat.pow_le_pow_right (by decide) h
  have h2 : 1 ≤ 2 ^ n := Nat.one_le_two_pow
  have h3 : ((2 ^ n : Nat) : Int) = (2 : Int) ^ n := by simp
  rw [← h3]
  have : (2 : Nat) ^ 40 = 1099511627776 := by decide
  omega
theorem bound_wrap {n : Nat} (h : n ≤ 40) : wrap64 (wrap64 (2 * 2 ^ n) - 1) = (2 : Int) ^ (n + 1) - 1 := by
  obtain ⟨h1, h2⟩ := pow_le40 h
  rw [Int.pow_succ]
  generalize (2 : Int) ^ n = x at *
  unfold wrap64; omega

set_option maxRecDepth 100000 in
set_option maxHeartbeats 1000000 in
theorem bound_call (v : Value) (ts : List GTxn) (w : World) (hv : RdTxns w v ts) (hok : OkTxns ts) (htl : ts.length ≤ 4096) :
    Calls Try.prog 12 #[v] w fun e w' => e = .returned (vi (boundM (choicesM ts).length)) ∧ Below w.heap.size w w' := by
  have HV := Lib.hid hv
  have HOK := Lib.hid hok
  clear hv hok
  have hcl := choicesM_le ts htl
  go_enter Try.func12, Try.ntmps12
  go_upto_region 1 with fail
  go_wp2_with (go_at_call 10; refine (choices_call _ ts _ HV.out HOK.out htl).mono ?_; rintro e w1 ⟨v1, rfl, ho, hb⟩; have hr := ho.rd; obtain ⟨a, len, cap, rfl, rfl, hm, -⟩ := hr.at)
  · go_ret
    refine ⟨?_, hb⟩
    unfold boundM
    rw [Nat.min_eq_right (by omega)]
    exact congrArg (fun x => Ending.returned (vi x)) (show wrap64 (wrap64 2199023255552 - 1) = (2 : Int) ^ (40 + 1) - 1 by unfold wrap64; rfl)
  · go_ret
    refine ⟨?_, hb⟩
    unfold boundM
    rw [Nat.min_eq_left (by omega)]
    exact congrArg (fun x => Ending.returned (vi x)) (bound_wrap (by omega))
end Go.Proofs.Ytafboehdihokhaa
