/- slices.ContainsFunc over ints, the test a method value; slices.Contains at ints. -/
import Derived.Test.YtbadpfcjoobniaaMvCont
namespace Go.Proofs.Ytbadpfcjoobniaa
open Go.RowKit Go.Maps

/-- What a test of an int answers (a method value: its receiver stands first). -/
def IntTest (g : FuncId) (fs : Array Value) (q : Int → Bool) (w : World) : Prop := ∀ (o : Int) (W : World), Below w.heap.size w W → Calls Try.prog g (fs ++ #[vi o]) W fun e W' => e = .returned (.bool (q o)) ∧ Below W.heap.size W W'
def idxZ (q : Int → Bool) (l : List Int) : Int := match l.findIdx? q with | some i => (i : Int) | none => -1
theorem idxZ_any (q : Int → Bool) (l : List Int) : decide (0 ≤ idxZ q l) = l.any q := by
  unfold idxZ
  cases h : l.findIdx? q with
  | none =>
    rw [List.findIdx?_eq_none_iff] at h
    simp only [show ¬ ((0 : Int) ≤ -1) from by decide, decide_false]
    symm; rw [List.any_eq_false]; exact fun x hx => by simp [h x hx]
  | some i =>
    have hs : (l.findIdx? q).isSome = true := by rw [h]; rfl
    rw [List.findIdx?_isSome] at hs
    rw [hs]; simp

set_option maxRecDepth 100000 in
theorem indexZ_call (v : Value) (l : List Int) (g : FuncId) (fs : Array Value) (q : Int → Bool) (w : World) (hv : RdInts w v l) (eg : ∀ args w, (callFunc g args).run Try.prog w = .ok (.enter g args) w) (hk : IntTest g fs q w) :
    Calls Try.prog 66 #[v, .func (.func g) fs #[]] w fun e w' => e = .returned (.int .i64 (idxZ q l)) ∧ Below w.heap.size w w' := by
  have HV := Lib.hid hv
  have HK := Lib.hid hk
  obtain ⟨a, len, cap, rfl, rfl, hm, -⟩ := hv.at
  clear hv hk
  go_enter Try.func66, Try.ntmps66
  go_wp2_with fail
  go_loopw [5, 8] (fun _ i wr => ∃ k : Nat, k ≤ l.length ∧ i = .int .i64 k ∧ (∀ j o, j < k → l[j]? = some o → q o = false) ∧ Below w.heap.size w wr) (fun _ i _ => l.length - (intOf i).toNat)
  case atStart => exact ⟨0, Nat.zero_le _, rfl, fun j o hj => absurd hj (Nat.not_lt_zero _), Below.refl _ _⟩
  case round =>
    obtain ⟨k, hk, rfl, hno, hb⟩ := hrel
    have HB := Lib.hid hb
    have HN := Lib.hid hno
    clear hb hno
    by_cases hlt : k < l.length
    · obtain ⟨o, ho⟩ := some_at hlt
      obtain ⟨_, _, _, e5, -, -, hcl⟩ := HV.out.at
      cases e5
      obtain ⟨b, off, rfl, k0', -⟩ := hcl k o ho
      have k0 := cell_later HB.out k0'
      have HO := Lib.hid ho
      clear hcl ho k0'
      cases hh : q o with
      | true =>
        have HH := Lib.hid hh
        clear hh
        go_wp2_with (go_at_fn g; refine (HK.out o _ HB.out).mono ?_; rintro e w1 ⟨rfl, hb1⟩; rw [HH.out])
        go_ret
        have : idxZ q l = k := by
          unfold idxZ
          have : l.findIdx? (q) = some k := by
            rw [List.findIdx?_eq_some_iff_getElem]
            have hg := List.getElem?_eq_some_iff.1 HO.out
            refine ⟨hlt, by rw [hg.2]; exact HH.out, fun j hj => ?_⟩
            have := HN.out j l[j] hj (List.getElem?_eq_getElem _)
            simp [this]
          rw [this]
        exact ⟨by rw [this]; rfl, HB.out.trans (hb1.mono HB.out.size)⟩
      | false =>
        have HH := Lib.hid hh
        clear hh
        go_wp2_with (go_at_fn g; refine (HK.out o _ HB.out).mono ?_; rintro e w1 ⟨rfl, hb1⟩; rw [HH.out])
        go_roundw
        case rel =>
          refine ⟨k + 1, by omega, by go_num, ?_, HB.out.trans (hb1.mono HB.out.size)⟩
          intro j o' hj ho'
          rcases Nat.lt_or_ge j k with h | h
          · exact HN.out j o' h ho'
          · obtain rfl : j = k := by omega
            rw [HO.out] at ho'; cases ho'; exact HH.out
        case measure => simp [intOf]; omega
    · obtain rfl : k = l.length := by omega
      go_wp2_with fail
      go_ret
      have : idxZ q l = -1 := by
        unfold idxZ
        have : l.findIdx? (q) = none := by
          rw [List.findIdx?_eq_none_iff]
          intro x hx
          obtain ⟨j, hj, rfl⟩ := List.mem_iff_getElem.1 hx
          exact HN.out j l[j] hj (List.getElem?_eq_getElem _)
        rw [this]
      exact ⟨by rw [this]; rfl, HB.out⟩

set_option maxRecDepth 100000 in
theorem containsZ_call (v : Value) (l : List Int) (g : FuncId) (fs : Array Value) (q : Int → Bool) (w : World) (hv : RdInts w v l) (eg : ∀ args w, (callFunc g args).run Try.prog w = .ok (.enter g args) w) (hk : IntTest g fs q w) :
    Calls Try.prog 41 #[v, .func (.func g) fs #[]] w fun e w' => e = .returned (.bool (l.any (q))) ∧ Below w.heap.size w w' := by
  go_enter Try.func41, Try.ntmps41
  go_wp2_with (go_at_call 66; refine (indexZ_call v l g fs q w hv eg hk).mono ?_; rintro e w1 ⟨rfl, hb1⟩)
  go_ret
  exact ⟨by rw [← idxZ_any]; first | rfl | simp, hb1⟩

end Go.Proofs.Ytbadpfcjoobniaa
