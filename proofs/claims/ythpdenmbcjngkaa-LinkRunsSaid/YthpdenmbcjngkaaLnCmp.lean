/- cmp.Compare, cmp.Or of two, and the comparison of links. -/
import Derived.Test.YthpdenmbcjngkaaLnApp
import Derived.Shelf.SlSortCmp.KitK
namespace Go.Proofs.Ythpdenmbcjngkaa
open Go.RowKit Go.Maps Go.Sort Go.Shelf

set_option maxRecDepth 100000 in
set_option maxHeartbeats 1000000 in
theorem nan_call (a : Int) (w : World) : Calls Try.prog 34 #[vi a] w fun e w' => e = .returned (.bool false) ∧ w' = w := by
  go_enter Try.func34, Try.ntmps34
  go_wp2_with fail
  go_ret
  exact ⟨by simp, rfl⟩

set_option maxRecDepth 100000 in
set_option maxHeartbeats 2000000 in
theorem compare_call (a b : Int) (w : World) : Calls Try.prog 29 #[vi a, vi b] w fun e w' => e = .returned (vi (Lib.compareInt a b)) ∧ w' = w := by
  go_enter Try.func29, Try.ntmps29
  by_cases h1 : a < b
  · have e1 : Lib.compareInt a b = -1 := by unfold Lib.compareInt; simp [h1]
    rw [e1]
    go_wp2_with (go_at_call 34; refine (nan_call _ _).mono ?_; rintro e w1 ⟨rfl, rfl⟩)
    go_ret
    exact ⟨rfl, rfl⟩
  · by_cases h2 : b < a
    · have e1 : Lib.compareInt a b = 1 := by unfold Lib.compareInt; simp [h1, h2]
      rw [e1]
      go_wp2_with (go_at_call 34; refine (nan_call _ _).mono ?_; rintro e w1 ⟨rfl, rfl⟩)
      go_ret
      exact ⟨rfl, rfl⟩
    · have e1 : Lib.compareInt a b = 0 := by unfold Lib.compareInt; simp [h1, h2]
      rw [e1]
      go_wp2_with (go_at_call 34; refine (nan_call _ _).mono ?_; rintro e w1 ⟨rfl, rfl⟩)
      go_ret
      exact ⟨rfl, rfl⟩

def orI (a b : Int) : Int := if a = 0 then b else a
def cmpLK (x y : LK) : Int := orI (Lib.compareInt x.1 y.1) (Lib.compareInt x.2 y.2)

set_option maxRecDepth 100000 in
set_option maxHeartbeats 2000000 in
theorem or_call (g c : Nat) (a b : Int) (w : World) (h0 : w.cell? ⟨g, 0, none⟩ = some (vi a)) (h1 : w.cell? ⟨g, 1, none⟩ = some (vi b)) :
    Calls Try.prog 28 #[.slice (some ⟨g, 0, none⟩) 2 c] w fun e w' => e = .returned (vi (orI a b)) ∧ w' = w := by
  go_enter Try.func28, Try.ntmps28
  go_wp2_with fail
  go_loopw [5, 8] (fun _ i wr => wr = w ∧ ∃ k : Nat, k ≤ 2 ∧ i = .int .i64 k ∧ (k = 0 ∨ a = 0) ∧ (k ≤ 1 ∨ b = 0)) (fun _ i _ => 2 - (intOf i).toNat)
  case atStart => exact ⟨rfl, 0, by omega, rfl, .inl rfl, .inl (by omega)⟩
  case round =>
    obtain ⟨rfl, k, hk, rfl, ha, hb⟩ := hrel
    have h3 : k = 0 ∨ k = 1 ∨ k = 2 := by omega
    rcases h3 with rfl | rfl | rfl
    · by_cases hz : a = 0
      · have e0 : (a == 0) = true := by simp [hz]
        have HZ := Lib.hid hz
        clear hz ha hb
        go_wp2_with fail
        go_roundw
        case rel => exact ⟨by trivial, 1, by omega, by go_num, .inr HZ.out, .inl (by omega)⟩
        case measure => simp [intOf]
      · have e0 : (a == 0) = false := by simp [hz]
        have e1 : orI a b = a := by unfold orI; rw [if_neg hz]
        clear hz ha hb
        go_wp2_with fail
        go_ret
        exact ⟨by rw [e1]; rfl, rfl⟩
    · obtain rfl : a = 0 := by omega
      by_cases hz : b = 0
      · have e0 : (b == 0) = true := by simp [hz]
        have HZ := Lib.hid hz
        clear hz ha hb
        go_wp2_with fail
        go_roundw
        case rel => exact ⟨by trivial, 2, by omega, by go_num, .inr (by trivial), .inr HZ.out⟩
        case measure => simp [intOf]
      · have e0 : (b == 0) = false := by simp [hz]
        have e1 : orI 0 b = b := by unfold orI; rw [if_pos rfl]
        clear hz ha hb
        go_wp2_with fail
        go_ret
        exact ⟨by rw [e1]; rfl, rfl⟩
    · obtain rfl : a = 0 := by omega
      obtain rfl : b = 0 := by omega
      go_wp2_with fail
      go_ret
      exact ⟨by rfl, rfl⟩
end Go.Proofs.Ythpdenmbcjngkaa
