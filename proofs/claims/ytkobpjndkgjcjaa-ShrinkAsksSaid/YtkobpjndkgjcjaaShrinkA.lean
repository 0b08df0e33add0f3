import Derived.Test.YtkobpjndkgjcjaaBase
namespace Go.Proofs.Ytkobpjndkgjcjaa
open Go.RowKit

def hasI (l : List Int) (x : Int) : Bool := l.contains x

theorem hasI_hit {l : List Int} {k : Nat} {x y : Int} (h : l[k]? = some y) (hx : (y == x) = true) : hasI l x = true := by
  unfold hasI; rw [List.contains_iff_mem]; obtain rfl : y = x := by simpa using hx
  exact List.mem_of_getElem? h
theorem hasI_miss {l : List Int} {k : Nat} {x : Int} (h : l.length ≤ k) (hx : hasI (l.take k) x = false) : hasI l x = false := by
  rwa [List.take_of_length_le h] at hx
theorem hasI_next {l : List Int} {k : Nat} {x y : Int} (h : l[k]? = some y) (hx : (y == x) = false) (hn : hasI (l.take k) x = false) : hasI (l.take (k + 1)) x = false := by
  rw [take_at h]
  unfold hasI at *
  have : ¬ x = y := by simp at hx; omega
  simp at hn ⊢
  exact ⟨hn, this⟩

set_option maxHeartbeats 400000 in
theorem has_any (v : Value) (zs : List Int) (x : Int) (w : World) (hv : RdI w v zs) :
    Calls Try.prog 14 #[v, .int .i64 x] w fun e w' => e = .returned (.bool (hasI zs x)) ∧ w = w' := by
  obtain ⟨a, len, cap, rfl, rfl, hm, _, _, hc⟩ := hv
  have HC := Lib.hid hc
  clear hc
  go_enter Try.func14, Try.ntmps14
  go_wp2
  go_loop [4, 6, 9] (fun _ _ i => ∃ k : Nat, k ≤ zs.length ∧ i = .int .i64 k ∧ hasI (zs.take k) x = false) (fun _ _ i => zs.length - (intOf i).toNat)
  case atStart => exact ⟨0, Nat.zero_le _, rfl, by simp [hasI]⟩
  case round =>
    obtain ⟨k, hk, rfl, hn⟩ := hrel
    have HN := Lib.hid hn
    clear hn
    by_cases hlt : k < zs.length
    · obtain ⟨y, hy⟩ := some_at hlt
      obtain ⟨b, off, rfl, hk'⟩ := HC.out k y hy
      have HY := Lib.hid hy
      clear hy
      go_wp2
      · go_ret
        exact ⟨ret_bool (hasI_hit HY.out ‹_›).symm, rfl⟩
      · go_round
        case rel => exact ⟨k + 1, by omega, by go_num, hasI_next HY.out ‹_› HN.out⟩
        case measure => simp [intOf]; omega
    · go_wp2
      go_ret
      exact ⟨ret_bool (hasI_miss (by omega) HN.out).symm, rfl⟩

def cntI (l ys : List Int) : Int := (ys.countP (hasI l) : Int)
def needB (l ys : List Int) (least : Int) : Bool := decide (least ≤ cntI l ys)

theorem cntI_le (l ys : List Int) : 0 ≤ cntI l ys ∧ cntI l ys ≤ ys.length := by
  unfold cntI; have := List.countP_le_length (p := hasI l) (l := ys); omega
theorem cntI_next {l ys : List Int} {k : Nat} {y : Int} (h : ys[k]? = some y) : cntI l (ys.take (k + 1)) = cntI l (ys.take k) + if hasI l y = true then 1 else 0 := by
  rw [take_at h]; unfold cntI; rw [List.countP_append, List.countP_singleton]; split <;> simp

set_option maxHeartbeats 400000 in
theorem need_any (v u : Value) (zs ys : List Int) (least : Int) (w : World) (hv : RdI w v zs) (hu : RdI w u ys) :
    Calls Try.prog 9 #[v, u, .int .i64 least] w fun e w' => e = .returned (.bool (needB zs ys least)) ∧ w = w' := by
  have HV := Lib.hid hv
  clear hv
  obtain ⟨a, len, cap, rfl, rfl, hm, _, _, hc⟩ := hu
  have HC := Lib.hid hc
  clear hc
  go_enter Try.func9, Try.ntmps9
  go_wp2
  go_loop [7, 9, 12] (fun n _ i => ∃ k : Nat, k ≤ ys.length ∧ i = .int .i64 k ∧ n = .int .i64 (cntI zs (ys.take k))) (fun _ _ i => ys.length - (intOf i).toNat)
  case atStart => exact ⟨0, Nat.zero_le _, rfl, rfl⟩
  case round =>
    obtain ⟨k, hk, rfl, rfl⟩ := hrel
    have hd := cntI_le zs (ys.take k)
    have hl : (ys.take k).length ≤ k := List.length_take_le _ _
    by_cases hlt : k < ys.length
    · obtain ⟨y, hy⟩ := some_at hlt
      obtain ⟨b, off, rfl, hk'⟩ := HC.out k y hy
      have HN := Lib.hid (cntI_next (l := zs) hy)
      clear hy
      go_wp2_with (go_at_call 14; refine (has_any _ _ _ _ HV.out).mono ?_; rintro e w' ⟨rfl, rfl⟩)
      · go_round
        case rel => exact ⟨k + 1, by omega, by go_num, by rw [HN.out, if_pos ‹_›]⟩
        case measure => simp [intOf]; omega
      · go_round
        case rel => exact ⟨k + 1, by omega, by go_num, by rw [HN.out, if_neg (by simpa using ‹_›)]; go_num⟩
        case measure => simp [intOf]; omega
    · go_wp2
      go_ret
      exact ⟨ret_bool (by unfold needB; rw [List.take_of_length_le (by omega)]), rfl⟩
end Go.Proofs.Ytkobpjndkgjcjaa
