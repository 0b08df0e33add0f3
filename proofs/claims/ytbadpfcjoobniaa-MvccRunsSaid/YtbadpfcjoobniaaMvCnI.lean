/- slices.Contains at ints. -/
import Derived.Test.YtbadpfcjoobniaaMvInts
namespace Go.Proofs.Ytbadpfcjoobniaa
open Go.RowKit Go.Maps

set_option maxRecDepth 100000 in
theorem indexI_call (v : Value) (l : List Int) (z : Int) (w : World) (hv : RdInts w v l) :
    Calls Try.prog 65 #[v, vi z] w fun e w' => e = .returned (.int .i64 (idxZ (fun o => z == o) l)) ∧ Below w.heap.size w w' := by
  have HV := Lib.hid hv
  obtain ⟨a, len, cap, rfl, rfl, hm, -⟩ := hv.at
  clear hv
  go_enter Try.func65, Try.ntmps65
  go_wp2_with fail
  go_loopw [5, 8] (fun _ i wr => ∃ k : Nat, k ≤ l.length ∧ i = .int .i64 k ∧ (∀ j o, j < k → l[j]? = some o → (z == o) = false) ∧ Below w.heap.size w wr) (fun _ i _ => l.length - (intOf i).toNat)
  case atStart => exact ⟨0, Nat.zero_le _, rfl, fun j o hj => absurd hj (Nat.not_lt_zero _), Below.refl _ _⟩
  case round =>
    obtain ⟨k, hk, rfl, hno, hb⟩ := hrel
    have HB := Lib.hid hb
    have HN := Lib.hid hno
    clear hb hno
    by_cases hlt : k < l.length
    · obtain ⟨o, ho⟩ := some_at hlt
      obtain ⟨_, _, _, e5, -, -, hcl⟩ := HV.out.at
      cases e5
      obtain ⟨b, off, rfl, k0', -⟩ := hcl k o ho
      have k0 := cell_later HB.out k0'
      have HO := Lib.hid ho
      clear hcl ho k0'
      cases hh : (z == o) with
      | true =>
        have HH := Lib.hid hh
        go_wp2_with fail
        go_ret
        have : idxZ (fun o => z == o) l = k := by
          unfold idxZ
          have : l.findIdx? (fun o => z == o) = some k := by
            rw [List.findIdx?_eq_some_iff_getElem]
            have hg := List.getElem?_eq_some_iff.1 HO.out
            refine ⟨hlt, by rw [hg.2]; exact HH.out, fun j hj => ?_⟩
            have := HN.out j l[j] hj (List.getElem?_eq_getElem _)
            simp [this]
          rw [this]
        exact ⟨by rw [this]; rfl, HB.out⟩
      | false =>
        have HH := Lib.hid hh
        go_wp2_with fail
        go_roundw
        case rel =>
          refine ⟨k + 1, by omega, by go_num, ?_, HB.out⟩
          intro j o' hj ho'
          rcases Nat.lt_or_ge j k with h | h
          · exact HN.out j o' h ho'
          · obtain rfl : j = k := by omega
            rw [HO.out] at ho'; cases ho'; exact HH.out
        case measure => simp [intOf]; omega
    · obtain rfl : k = l.length := by omega
      go_wp2_with fail
      go_ret
      have : idxZ (fun o => z == o) l = -1 := by
        unfold idxZ
        have : l.findIdx? (fun o => z == o) = none := by
          rw [List.findIdx?_eq_none_iff]
          intro x hx
          obtain ⟨j, hj, rfl⟩ := List.mem_iff_getElem.1 hx
          exact HN.out j l[j] hj (List.getElem?_eq_getElem _)
        rw [this]
      exact ⟨by rw [this]; rfl, HB.out⟩

set_option maxRecDepth 100000 in
theorem containsI_call (v : Value) (l : List Int) (z : Int) (w : World) (hv : RdInts w v l) :
    Calls Try.prog 40 #[v, vi z] w fun e w' => e = .returned (.bool (l.any (fun o => z == o))) ∧ Below w.heap.size w w' := by
  go_enter Try.func40, Try.ntmps40
  go_wp2_with (go_at_call 65; refine (indexI_call v l z w hv).mono ?_; rintro e w1 ⟨rfl, hb1⟩)
  go_ret
  exact ⟨by rw [← idxZ_any]; first | rfl | simp, hb1⟩

end Go.Proofs.Ytbadpfcjoobniaa
