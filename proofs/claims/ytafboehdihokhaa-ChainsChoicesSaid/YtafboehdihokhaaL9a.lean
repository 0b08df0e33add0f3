/- The law ChainsChoices: its walk. -/
import Derived.Test.YtafboehdihokhaaSureEq
import Derived.Test.YtafboehdihokhaaHead
import Derived.Test.YtafboehdihokhaaMade
import Derived.Test.YtafboehdihokhaaRdEv
namespace Go.Proofs.Ytafboehdihokhaa.chainsChoices
open Go.RowKit Go.Maps

theorem bound_eq {n : Nat} {B : Int} (h : B = 2 ^ (min n 40)) : (boundM n == 2 * B - 1) = true := by
  subst h
  rw [beq_iff_eq]
  unfold boundM
  rw [Int.pow_succ, Int.mul_comm]
theorem pow_step {k : Nat} {B : Int} (h : B = 2 ^ (min k 40)) (hk : k < 40) : 2 * B = 2 ^ (min (k + 1) 40) := by
  subst h
  rw [Nat.min_eq_left (by omega), Nat.min_eq_left (by omega), Int.pow_succ, Int.mul_comm]
theorem pow_stay {k : Nat} {B : Int} (h : B = 2 ^ (min k 40)) (hk : ¬ k < 40) : B = 2 ^ (min (k + 1) 40) := by
  subst h
  rw [Nat.min_eq_right (by omega), Nat.min_eq_right (by omega)]

set_option maxRecDepth 100000 in
set_option maxHeartbeats 4000000 in
theorem walk (v : Value) (es : List GEvent) (w : World) (hv : RdEvents w v es) :
    Calls Try.prog 3 #[v] w fun e w' => e = .returned (.bool true) ∧ Below w.heap.size w w' := by
  have HV := Lib.hid hv
  clear hv
  go_enter Try.func3, Try.ntmps3
  go_upto_region 4 with (first
    | (go_at_call 8; refine (head_call _).mono ?_; rintro e w1 ⟨rfl, hb1⟩; have HB1 := Lib.hid hb1; have HV1 := Lib.hid (HV.out.later hb1); clear hb1)
    | (go_at_call 9; refine (made_call _ es _ HV1.out).mono ?_; rintro e w2 ⟨v2, b, rfl, hg, hb2⟩))
  have HB2 := Lib.hid (HB1.out.trans (hb2.mono HB1.out.size))
  clear hb2
  cases b with
  | false =>
    go_wp2_with fail
    go_ret
    exact ⟨by rfl, HB2.out⟩
  | true =>
    obtain ⟨ts, hr, hgood⟩ := hg rfl
    have HR := Lib.hid hr
    have HG := Lib.hid hgood
    have HOK := Lib.hid hgood.ok
    have HE := Lib.hid (choices_eq hgood.uniq).symm
    have htl : ts.length ≤ 60 := hgood.len
    have hcl := choicesM_le ts (by omega)
    clear hg hr hgood
    go_upto_region 8 with (first
      | (go_at_call 10; refine (choices_call _ ts _ HR.out HOK.out (by omega)).mono ?_; rintro e w3 ⟨v3, rfl, ho3, hb3⟩; have HB3 := Lib.hid hb3; have HO3 := Lib.hid ho3; have HR3 := Lib.hid (HR.out.later hb3); have hr3 := ho3.rd; obtain ⟨a3, len3, cap3, rfl, rfl, hm3, -⟩ := hr3.at; clear hb3 ho3 hr3)
      | (go_at_call 11; refine (refChoices_call _ ts _ HR3.out HOK.out (by omega)).mono ?_; rw [HE.out]; rintro e w4 ⟨v4, rfl, ho4, hb4⟩; have HB4 := Lib.hid hb4; have HO4 := Lib.hid ho4; have HR4 := Lib.hid (HR3.out.later hb4); have hr4 := ho4.rd; obtain ⟨a4, len4, cap4, rfl, rfl, hm4, -⟩ := hr4.at; clear hb4 ho4 hr4))
    have HBW := Lib.hid (HB2.out.trans ((HB3.out.trans (HB4.out.mono HB3.out.size)).mono HB2.out.size))
    have HC3 := Lib.hid (HO3.out.rd.later HB4.out)
    have HC4 := Lib.hid HO4.out.rd
    have hBound := fun (W : World) (u : Value) (h : RdTxns W u ts) => bound_call u ts W h HOK.out (by omega)
    have HBound := Lib.hid hBound
    clear hBound
    generalize choicesM ts = C at *
    have hx3 := HC3.out.at
    have hx4 := HC4.out.at
    obtain ⟨_, _, _, e3, -, -, hl3⟩ := hx3
    cases e3
    obtain ⟨_, _, _, e4, -, -, hl4⟩ := hx4
    cases e4
    have HL3 := Lib.hid hl3
    have HL4 := Lib.hid hl4
    clear hl3 hl4
    go_wp2_with fail
    go_loopw [7, 8, 29] (fun bv _ n wr => ∃ (k : Nat) (B : Int), k ≤ C.length ∧ n = .int .i64 k ∧ bv = vi B ∧ 1 ≤ B ∧ B ≤ 1099511627776 ∧ Hid (B = 2 ^ (min k 40)) ∧ Below w4.heap.size w4 wr) (fun _ _ n _ => C.length - (intOf n).toNat)
    case atStart => exact ⟨0, 1, Nat.zero_le _, rfl, rfl, by omega, by omega, Lib.hid (by simp), Below.refl _ _⟩
    case round =>
      obtain ⟨wk, rfl⟩ : ∃ wk : World, wk = wr := ⟨_, rfl⟩
      obtain ⟨k, B, hk, rfl, rfl, hB1, hB2, HBe, hb⟩ := hrel
      have HBk := Lib.hid hb
      have HBz := Lib.hid (HBW.out.trans (hb.mono HBW.out.size))
      have hkk : (k < 40) ∨ ¬ (k < 40) := Classical.em _
      clear hb
      by_cases hlt : k < C.length
      · obtain ⟨c, hc⟩ := some_at hlt
        obtain ⟨b, off, rfl, m0', m1', m2', m3'⟩ := HL3.out k c hc
        obtain ⟨b', off', rfl, n0', n1', n2', n3'⟩ := HL4.out k c hc
        have m0 := cell_later HBk.out m0'
        have m1 := cell_later HBk.out m1'
        have m2 := cell_later HBk.out m2'
        have m3 := cell_later HBk.out m3'
        have n0 := cell_later HBk.out n0'
        have n1 := cell_later HBk.out n1'
        have n2 := cell_later HBk.out n2'
        have n3 := cell_later HBk.out n3'
        have hkI : (k : Int) < (C.length : Int) := by omega
        have hk0 : (0 : Int) ≤ (k : Int) := by omega
        clear hc m0' m1' m2' m3' n0' n1' n2' n3'
        by_cases hk40 : (k : Int) < 40
        · go_wp2
          go_quiet (fail)
          go_wp2
          go_roundw
          case rel =>
            have h2 := pow_step HBe.out (show k < 40 by omega)
            refine ⟨k + 1, 2 * B, by omega, by go_num, by go_num, by omega, ?_, Lib.hid h2, below_drewN HBk.out _⟩
            rw [h2]; exact (pow_le40 (Nat.min_le_right _ _)).2
          case measure => simp [intOf]; omega
        · go_wp2
          go_quiet (fail)
          go_wp2
          go_roundw
          case rel => exact ⟨k + 1, B, by omega, by go_num, rfl, hB1, hB2, Lib.hid (pow_stay HBe.out (show ¬ k < 40 by omega)), below_drewN HBk.out _⟩
          case measure => simp [intOf]; omega
      · obtain rfl : k = C.length := by omega
        have he := bound_eq HBe.out
        have hbm : boundM C.length = 2 * B - 1 := by simpa using he
        have HRk := Lib.hid (HR4.out.later HBk.out)
        go_wp2_with (go_at_call 12; refine (HBound.out _ _ HRk.out).mono ?_; rintro e w5 ⟨rfl, hb5⟩)
        go_ret
        exact ⟨by rfl, HBz.out.trans (hb5.mono HBz.out.size)⟩
end Go.Proofs.Ytafboehdihokhaa.chainsChoices
