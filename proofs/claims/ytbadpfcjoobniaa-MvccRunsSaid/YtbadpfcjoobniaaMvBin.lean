/- cmp.Compare at ints; slices.BinarySearchFunc at versions. -/
import Derived.Test.YtbadpfcjoobniaaMvIns
import Derived.Lib.Small
namespace Go.Proofs.Ytbadpfcjoobniaa
open Go.RowKit Go.Maps

section
set_option maxRecDepth 100000
set_option maxHeartbeats 2000000
theorem nan_call (a : Int) (w : World) : Calls Try.prog 70 #[vi a] w fun e w' => e = .returned (.bool false) ∧ w' = w := by
  go_enter Try.func70, Try.ntmps70
  go_wp2_with fail
  go_ret
  exact ⟨by simp, rfl⟩
theorem compare_call (a b : Int) (w : World) : Calls Try.prog 48 #[vi a, vi b] w fun e w' => e = .returned (vi (Lib.compareInt a b)) ∧ w = w' := by
  by_cases h1 : a < b
  · have e1 := Lib.hid (show Lib.compareInt a b = -1 by unfold Lib.compareInt; simp [h1])
    go_enter Try.func48, Try.ntmps48
    go_wp2_with (go_at_call 70; refine (nan_call _ _).mono ?_; rintro e w1 ⟨rfl, rfl⟩)
    go_ret
    exact ⟨by rw [e1.out]; rfl, rfl⟩
  · by_cases h2 : b < a
    · have e1 := Lib.hid (show Lib.compareInt a b = 1 by unfold Lib.compareInt; simp [h1, h2])
      go_enter Try.func48, Try.ntmps48
      go_wp2_with (go_at_call 70; refine (nan_call _ _).mono ?_; rintro e w1 ⟨rfl, rfl⟩)
      go_ret
      exact ⟨by rw [e1.out]; rfl, rfl⟩
    · have e1 := Lib.hid (show Lib.compareInt a b = 0 by unfold Lib.compareInt; simp [h1, h2])
      go_enter Try.func48, Try.ntmps48
      go_wp2_with (go_at_call 70; refine (nan_call _ _).mono ?_; rintro e w1 ⟨rfl, rfl⟩)
      go_ret
      exact ⟨by rw [e1.out]; rfl, rfl⟩

theorem fin1_call (x : Ver) (t : Int) (w : World) : Calls Try.prog 47 #[.agg #[vi x.1, vi x.2], vi t] w fun e w' => e = .returned (vi (Lib.compareInt x.1 t)) ∧ Below w.heap.size w w' := by
  go_enter Try.func47, Try.ntmps47
  go_wp2_with (go_at_call 48; refine (compare_call _ _ _).mono ?_; rintro e w1 ⟨rfl, rfl⟩)
  go_ret
  exact ⟨rfl, (Below.refl _ _).alloc (Nat.le_refl _) _⟩
end

def sameB (l : List Ver) (i : Nat) (t : Int) : Bool := match l[i]? with | some x => x.1 == t | none => false
theorem cmp_neg (a b : Int) : decide (Lib.compareInt a b < 0) = decide (a < b) := by
  unfold Lib.compareInt
  by_cases h1 : a < b
  · simp [h1]
  · by_cases h2 : a > b <;> simp [h1, h2]
theorem cmp_eq (a b : Int) : (Lib.compareInt a b == 0) = (a == b) := by
  unfold Lib.compareInt
  by_cases h1 : a < b
  · have : a ≠ b := by omega
    simp [h1, this]
  · by_cases h2 : a > b
    · have : a ≠ b := by omega
      simp [h1, h2, this]
    · have : a = b := by omega
      simp [this]
def BinQ (l : List Ver) (t : Int) (w : World) (e : Ending) (w' : World) : Prop :=
  ∃ i : Nat, e = .returned (.tuple #[vi i, .bool (sameB l i t)]) ∧ i ≤ l.length ∧ (∀ j x, j < i → l[j]? = some x → x.1 < t) ∧ (∀ j x, i ≤ j → l[j]? = some x → t ≤ x.1) ∧ Below w.heap.size w w'

set_option maxRecDepth 100000 in
set_option maxHeartbeats 2000000 in
theorem bin_call (v : Value) (l : List Ver) (t : Int) (w : World) (hv : RdVer w v l) (hl : l.length ≤ 1048576) (hs : l.Pairwise (fun x y => x.1 ≤ y.1)) :
    Calls Try.prog 46 #[v, vi t, .func (.func 47) #[] #[]] w (BinQ l t w) := by
  have HV := Lib.hid hv
  have HS := Lib.hid hs
  obtain ⟨a, len, cap, rfl, rfl, hm, -⟩ := hv.at
  clear hv hs
  have e47 : ∀ args w, (callFunc 47 args).run Try.prog w = .ok (.enter 47 args) w := enters_of Try.func47 (by kernel_rfl) rfl
  go_enter Try.func46, Try.ntmps46
  go_wp2_with fail
  go_loopw [9, 10] (fun vi' vj wr => ∃ i j : Nat, i ≤ j ∧ j ≤ l.length ∧ vi' = .int .i64 i ∧ vj = .int .i64 j ∧ Hid (∀ j x, j < i → l[j]? = some x → x.1 < t) ∧ Hid (∀ k x, j ≤ k → l[k]? = some x → t ≤ x.1) ∧ Below w.heap.size w wr) (fun vi' vj _ => (intOf vj).toNat - (intOf vi').toNat)
  case atStart => exact ⟨0, l.length, Nat.zero_le _, Nat.le_refl _, rfl, rfl, Lib.hid (fun j x h => absurd h (Nat.not_lt_zero _)), Lib.hid (fun k x h hk => by have := (List.getElem?_eq_some_iff.1 hk).1; omega), Below.refl _ _⟩
  case round =>
    obtain ⟨wj, rfl⟩ : ∃ wj : World, wj = wr := ⟨_, rfl⟩
    obtain ⟨i, j, hij, hj, rfl, rfl, HLo, HHi, hb⟩ := hrel
    have HB := Lib.hid hb
    clear hb
    by_cases hlt : i < j
    · obtain ⟨m, hmid⟩ : ∃ m, (i + j) / 2 = m := ⟨_, rfl⟩
      obtain ⟨x, hx⟩ := some_at (l := l) (k := m) (by omega)
      obtain ⟨_, _, _, e5, -, -, hcl⟩ := HV.out.at
      cases e5
      obtain ⟨b, off, rfl, k0', k1', -⟩ := hcl m x hx
      have k0 := cell_later HB.out k0'
      have k1 := cell_later HB.out k1'
      have HX := Lib.hid hx
      have hm1 : i ≤ m := by omega
      have hm2 : m < j := by omega
      have hml : (m : Int) < (l.length : Int) := by omega
      clear hcl hx k0' k1'
      have HC := Lib.hid (cmp_neg x.1 t)
      have HM := Lib.hid hmid
      by_cases hc : Lib.compareInt x.1 t < 0
      · have hx1 : x.1 < t := by have := HC.out; simp [hc] at this; exact this
        have HNEW := Lib.hid (show ∀ k y, k < (i + j) / 2 + 1 → l[k]? = some y → y.1 < t from fun k y hk hy => by
          have hp := HS.out
          rcases Nat.lt_or_ge k m with h1 | h1
          · have h2 := List.pairwise_iff_getElem.1 hp k m (List.getElem?_eq_some_iff.1 hy).1 (by omega) h1
            rw [(List.getElem?_eq_some_iff.1 hy).2, (List.getElem?_eq_some_iff.1 HX.out).2] at h2; omega
          · obtain rfl : k = m := by omega
            rw [HX.out] at hy; cases hy; exact hx1)
        clear hx1
        go_wp2_with (go_at_call 47; refine (fin1_call x t _).mono ?_; rintro e w2 ⟨rfl, hb2⟩; have HB2 := Lib.hid (HB.out.trans (hb2.mono HB.out.size)); clear hb2)
        go_roundw
        case rel => exact ⟨(i + j) / 2 + 1, j, by omega, hj, by go_num, rfl, HNEW, HHi, HB2.out⟩
        case measure => simp [intOf]; omega
      · have hx1 : ¬ x.1 < t := by have := HC.out; simp [hc] at this; omega
        have HNEW := Lib.hid (show ∀ k y, (i + j) / 2 ≤ k → l[k]? = some y → t ≤ y.1 from fun k y hk hy => by
          have hp := HS.out
          rcases Nat.lt_or_ge m k with h1 | h1
          · have h2 := List.pairwise_iff_getElem.1 hp m k (by omega) (List.getElem?_eq_some_iff.1 hy).1 h1
            rw [(List.getElem?_eq_some_iff.1 hy).2, (List.getElem?_eq_some_iff.1 HX.out).2] at h2; omega
          · obtain rfl : k = m := by omega
            rw [HX.out] at hy; cases hy; omega)
        clear hx1
        go_wp2_with (go_at_call 47; refine (fin1_call x t _).mono ?_; rintro e w2 ⟨rfl, hb2⟩; have HB2 := Lib.hid (HB.out.trans (hb2.mono HB.out.size)); clear hb2)
        go_roundw
        case rel => exact ⟨i, (i + j) / 2, by omega, by omega, rfl, by go_num, HLo, HNEW, HB2.out⟩
        case measure => simp [intOf]; omega
    · obtain rfl : i = j := by omega
      by_cases hin : i < l.length
      · obtain ⟨x, hx⟩ := some_at hin
        obtain ⟨_, _, _, e5, -, -, hcl⟩ := HV.out.at
        cases e5
        obtain ⟨b, off, rfl, k0', k1', -⟩ := hcl i x hx
        have k0 := cell_later HB.out k0'
        have k1 := cell_later HB.out k1'
        have hml : (i : Int) < (l.length : Int) := by omega
        have HSB := Lib.hid (show sameB l i t = (Lib.compareInt x.1 t == 0) by unfold sameB; rw [hx, cmp_eq])
        clear hcl hx k0' k1'
        go_wp2_with (go_at_call 47; refine (fin1_call x t _).mono ?_; rintro e w2 ⟨rfl, hb2⟩; have HB2 := Lib.hid (HB.out.trans (hb2.mono HB.out.size)); clear hb2)
        go_ret2
        exact ⟨i, by rw [HSB.out]; rfl, hj, HLo.out, HHi.out, HB2.out⟩
      · have HSB := Lib.hid (show sameB l i t = false by unfold sameB; rw [List.getElem?_eq_none (by omega)])
        obtain rfl : i = l.length := by omega
        go_wp2_with fail
        go_ret2
        exact ⟨l.length, by rw [HSB.out]; rfl, hj, HLo.out, HHi.out, HB.out⟩
end Go.Proofs.Ytbadpfcjoobniaa
