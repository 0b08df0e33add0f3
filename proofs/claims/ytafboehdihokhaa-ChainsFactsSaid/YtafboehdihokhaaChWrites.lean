import Derived.Test.YtafboehdihokhaaSure
namespace Go.Proofs.Ytafboehdihokhaa
open Go.RowKit Go.Maps

/-- Does an operation write a key? -/
def hitK (key : Int) (o : GOp) : Bool := o.kind == 2 && o.key == key
def writesK (t : GTxn) (key : Int) : Bool := t.ops.any (hitK key)
def idxK (key : Int) (l : List GOp) : Int := match l.findIdx? (hitK key) with | some i => (i : Int) | none => -1

theorem idxK_any (key : Int) (l : List GOp) : decide (0 ≤ idxK key l) = l.any (hitK key) := by
  unfold idxK
  cases h : l.findIdx? (hitK key) with
  | none => 
    rw [List.findIdx?_eq_none_iff] at h
    simp only [show ¬ ((0 : Int) ≤ -1) from by decide, decide_false]
    symm; rw [List.any_eq_false]; exact fun x hx => by simp [h x hx]
  | some i => 
    have hs : (l.findIdx? (hitK key)).isSome = true := by rw [h]; rfl
    rw [List.findIdx?_isSome] at hs
    rw [hs]; simp

set_option maxRecDepth 100000 in
theorem hit_call (o : GOp) (key : Int) (kb : Nat) (w : World) (hk : w.cell? ⟨kb, 0, none⟩ = some (.int .i64 key)) :
    Calls Try.prog 49 #[.agg #[vi o.kind, vi o.key, vi o.val], .pointer (some ⟨kb, 0, none⟩)] w fun e w' => e = .returned (.bool (hitK key o)) ∧ Below w.heap.size w w' := by
  have hk' := fun o' => cell_later ((Below.refl w.heap.size w).alloc (Nat.le_refl _) o') hk
  by_cases h2 : o.kind = 2
  · have h2' : (o.kind == 2) = true := by simp [h2]
    have hr : hitK key o = (o.key == key) := by simp [hitK, h2]
    clear h2
    go_enter Try.func49, Try.ntmps49
    go_wp2_with fail
    go_ret
    exact ⟨by rw [hr]; rfl, (Below.refl _ _).alloc (Nat.le_refl _) _⟩
  · have h2' : (o.kind == 2) = false := by simp [h2]
    have hr : hitK key o = false := by simp [hitK, h2]
    clear h2
    go_enter Try.func49, Try.ntmps49
    go_wp2_with fail
    go_ret
    exact ⟨by rw [hr]; rfl, (Below.refl _ _).alloc (Nat.le_refl _) _⟩

set_option maxRecDepth 100000 in
theorem index_call (v : Value) (l : List GOp) (key : Int) (kb : Nat) (w : World) (hv : RdOps w v l) (hk : w.cell? ⟨kb, 0, none⟩ = some (.int .i64 key)) :
    Calls Try.prog 58 #[v, .func (.func 49) #[] #[.pointer (some ⟨kb, 0, none⟩)]] w fun e w' => e = .returned (.int .i64 (idxK key l)) ∧ Below w.heap.size w w' := by
  have HV := Lib.hid hv
  have HK := Lib.hid hk
  obtain ⟨a, len, cap, rfl, rfl, hm, -⟩ := hv.at
  clear hv hk
  go_enter Try.func58, Try.ntmps58
  go_wp2_with fail
  go_loopw [5, 8] (fun _ i wr => ∃ k : Nat, k ≤ l.length ∧ i = .int .i64 k ∧ (∀ j o, j < k → l[j]? = some o → hitK key o = false) ∧ Below w.heap.size w wr) (fun _ i _ => l.length - (intOf i).toNat)
  case atStart => exact ⟨0, Nat.zero_le _, rfl, fun j o hj => absurd hj (Nat.not_lt_zero _), Below.refl _ _⟩
  case round =>
    obtain ⟨k, hk, rfl, hno, hb⟩ := hrel
    have HB := Lib.hid hb
    have HN := Lib.hid hno
    clear hb hno
    by_cases hlt : k < l.length
    · obtain ⟨o, ho⟩ := some_at hlt
      obtain ⟨_, _, _, e5, -, -, hcl⟩ := HV.out.at
      cases e5
      obtain ⟨b, off, rfl, k0', k1', k2'⟩ := hcl k o ho
      have k0 := cell_later HB.out k0'
      have k1 := cell_later HB.out k1'
      have k2 := cell_later HB.out k2'
      have HO := Lib.hid ho
      clear hcl ho k0' k1' k2'
      cases hh : hitK key o with
      | true =>
        have HH := Lib.hid hh
        clear hh
        go_wp2_with (go_at_call 49; refine (hit_call o key kb _ (cell_later HB.out HK.out)).mono ?_; rintro e w1 ⟨rfl, hb1⟩; rw [HH.out])
        go_ret
        have : idxK key l = k := by
          unfold idxK
          have : l.findIdx? (hitK key) = some k := by
            rw [List.findIdx?_eq_some_iff_getElem]
            have hg := List.getElem?_eq_some_iff.1 HO.out
            refine ⟨hlt, by rw [hg.2]; exact HH.out, fun j hj => ?_⟩
            have := HN.out j l[j] hj (List.getElem?_eq_getElem _)
            simp [this]
          rw [this]
        exact ⟨by rw [this]; rfl, HB.out.trans (hb1.mono HB.out.size)⟩
      | false =>
        have HH := Lib.hid hh
        clear hh
        go_wp2_with (go_at_call 49; refine (hit_call o key kb _ (cell_later HB.out HK.out)).mono ?_; rintro e w1 ⟨rfl, hb1⟩; rw [HH.out])
        go_roundw
        case rel =>
          refine ⟨k + 1, by omega, by go_num, ?_, HB.out.trans (hb1.mono HB.out.size)⟩
          intro j o' hj ho'
          rcases Nat.lt_or_ge j k with h | h
          · exact HN.out j o' h ho'
          · obtain rfl : j = k := by omega
            rw [HO.out] at ho'; cases ho'; exact HH.out
        case measure => simp [intOf]; omega
    · obtain rfl : k = l.length := by omega
      go_wp2_with fail
      go_ret
      have : idxK key l = -1 := by
        unfold idxK
        have : l.findIdx? (hitK key) = none := by
          rw [List.findIdx?_eq_none_iff]
          intro x hx
          obtain ⟨j, hj, rfl⟩ := List.mem_iff_getElem.1 hx
          exact HN.out j l[j] hj (List.getElem?_eq_getElem _)
        rw [this]
      exact ⟨by rw [this]; rfl, HB.out⟩

set_option maxRecDepth 100000 in
theorem contains_call (v : Value) (l : List GOp) (key : Int) (kb : Nat) (w : World) (hv : RdOps w v l) (hk : w.cell? ⟨kb, 0, none⟩ = some (.int .i64 key)) :
    Calls Try.prog 48 #[v, .func (.func 49) #[] #[.pointer (some ⟨kb, 0, none⟩)]] w fun e w' => e = .returned (.bool (l.any (hitK key))) ∧ Below w.heap.size w w' := by
  go_enter Try.func48, Try.ntmps48
  go_wp2_with (go_at_call 58; refine (index_call v l key kb w hv hk).mono ?_; rintro e w1 ⟨rfl, hb1⟩)
  go_ret
  exact ⟨by rw [← idxK_any]; first | rfl | simp, hb1⟩

set_option maxRecDepth 100000 in
theorem writesK_call (c s : Int) (v : Value) (t : GTxn) (key : Int) (w : World) (hv : RdOps w v t.ops) :
    Calls Try.prog 28 #[.agg #[vi c, vi s, v], vi key] w fun e w' => e = .returned (.bool (writesK t key)) ∧ Below w.heap.size w w' := by
  have hmf : ∀ (fn : Fn) (first cap : Array Value) (w : World), (Instr.makeFunc fn first cap).run Try.prog w = .ok (.func fn first cap) w := fun _ _ _ _ => rfl
  have hB : Below w.heap.size w ((w.alloc (.cells #[vi c, vi s, v] 62)).alloc (.cells #[vi key] 3)) := ((Below.refl _ _).alloc (Nat.le_refl _) _).alloc (by simp) _
  have HV := Lib.hid (hv.later hB)
  have HB := Lib.hid hB
  clear hv hB
  go_enter Try.func28, Try.ntmps28
  go_wp2_with (go_at_call 48; refine (contains_call v t.ops key (w.heap.size + 1) _ HV.out (by rw [World.cell?_alloc_at _ _ _ _ (by simp)]; rfl)).mono ?_; rintro e w1 ⟨rfl, hb1⟩)
  go_ret
  exact ⟨rfl, HB.out.trans (hb1.mono (by simp; omega))⟩
end Go.Proofs.Ytafboehdihokhaa
