import Derived.Test.YtafboehdihokhaaRefR
namespace Go.Proofs.Ytafboehdihokhaa
open Go.RowKit Go.Maps

/-- crucibleref09.writes. -/
def refWk (l : List GOp) (key : Int) : Bool := (writesM l).any (fun o => o.key == key)

theorem mem_last {l : List GOp} {k : Nat} {o : GOp} (ho : o ∈ l) (hh : hitB k o = true) : ∃ p, lastW l k = some p := by
  unfold lastW
  obtain ⟨i, hi, rfl⟩ := List.mem_iff_getElem.1 ho
  have hm : (i, l[i]) ∈ revL l := by
    unfold revL
    rw [List.mem_reverse, List.mem_map]
    exact ⟨(l[i], i), List.mem_zipIdx_iff_getElem?.2 (List.getElem?_eq_getElem hi), rfl⟩
  cases hf : (revL l).find? (fun p => hitB k p.2) with
  | some p => exact ⟨p.2, by simp⟩
  | none =>
    rw [List.find?_eq_none] at hf
    exact absurd hh (hf _ hm)

/-- Both ways to ask whether a key is written. -/
theorem refWk_eq (l : List GOp) (k : Nat) (hk : k < 16) : refWk l (k : Int) = l.any (hitK (k : Int)) := by
  rw [Bool.eq_iff_iff]
  unfold refWk
  rw [List.any_eq_true, List.any_eq_true]
  constructor
  · rintro ⟨o, ho, hk'⟩
    unfold writesM writesTo at ho
    rw [List.mem_filterMap] at ho
    obtain ⟨m, hm, hl⟩ := ho
    obtain ⟨h1, h2⟩ := lastW_mem hl
    refine ⟨o, h1, ?_⟩
    simp [hitB] at h2
    simp at hk'
    simp [hitK, h2.1, hk']
  · rintro ⟨o, ho, hh⟩
    have hb : hitB k o = true := by simpa [hitB, hitK] using hh
    obtain ⟨p, hp⟩ := mem_last ho hb
    refine ⟨p, ?_, ?_⟩
    · unfold writesM writesTo
      rw [List.mem_filterMap]
      exact ⟨k, by simpa using hk, hp⟩
    · have := (lastW_mem hp).2
      simp [hitB] at this
      simp [this.2]

set_option maxRecDepth 100000 in
set_option maxHeartbeats 1000000 in
theorem refWk_call (c s : Int) (v : Value) (l : List GOp) (key : Int) (w : World) (hv : RdOps w v l) (hl : l.length ≤ 1048576) :
    Calls Try.prog 31 #[.agg #[vi c, vi s, v], .int .i64 key] w fun e w' => e = .returned (.bool (refWk l key)) ∧ Below w.heap.size w w' := by
  have hB : Below w.heap.size w (w.alloc (.cells #[vi c, vi s, v] 62)) := (Below.refl _ _).alloc (Nat.le_refl _) _
  have hV := hv.later hB
  have HV := Lib.hid hV
  have HB := Lib.hid hB
  clear hv hV hB
  go_enter Try.func31, Try.ntmps31
  go_wp2_with (go_at_call 30; refine (refWrites_call c s _ l _ HV.out hl).mono ?_; rintro e w2 ⟨v2, rfl, ho2, hb2⟩; have hr2 := ho2.rd; obtain ⟨a2, len2, cap2, rfl, rfl, hm2, -⟩ := hr2.at)
  have HR2 := Lib.hid hr2
  have HB2 := Lib.hid (HB.out.trans (hb2.mono HB.out.size))
  have hs2 := HB2.out.size
  have HE := Lib.hid (show refWk l key = (writesM l).any (fun o => o.key == key) from rfl)
  clear hr2 ho2 hb2
  generalize writesM l = ws at *
  go_loopw [6, 10] (fun _ i wr => ∃ k : Nat, k ≤ ws.length ∧ i = .int .i64 k ∧ (∀ j o, j < k → ws[j]? = some o → (o.key == key) = false) ∧ Below w2.heap.size w2 wr) (fun _ i _ => ws.length - (intOf i).toNat)
  case atStart => exact ⟨0, Nat.zero_le _, rfl, fun j u hj => absurd hj (Nat.not_lt_zero _), Below.refl _ _⟩
  case round =>
    obtain ⟨wk, rfl⟩ : ∃ wk : World, wk = wr := ⟨_, rfl⟩
    obtain ⟨k, hk, rfl, hno, hb⟩ := hrel
    have HN := Lib.hid hno
    have HBk := Lib.hid hb
    have hwk := hb.size
    clear hno hb
    by_cases hlt : k < ws.length
    · obtain ⟨o, ho⟩ := some_at hlt
      obtain ⟨_, _, _, e5, -, -, hcl⟩ := HR2.out.at
      cases e5
      obtain ⟨b, off, rfl, k0', k1', k2'⟩ := hcl k o ho
      have k0 := cell_later HBk.out k0'
      have k1 := cell_later HBk.out k1'
      have k2 := cell_later HBk.out k2'
      have HO := Lib.hid ho
      clear hcl ho k0' k1' k2'
      cases hh : o.key == key with
      | true =>
        go_wp2_with fail
        go_ret
        have e : refWk l key = true := by rw [HE.out, List.any_eq_true]; exact ⟨o, List.mem_of_getElem? HO.out, hh⟩
        exact ⟨by rw [e]; rfl, HB2.out.trans ((HBk.out.alloc hwk _).mono hs2)⟩
      | false =>
        go_wp2_with fail
        go_roundw
        case rel =>
          refine ⟨k + 1, by omega, by go_num, ?_, HBk.out.alloc hwk _⟩
          intro j o' hj ho'
          rcases Nat.lt_or_ge j k with h | h
          · exact HN.out j o' h ho'
          · obtain rfl : j = k := by omega
            rw [HO.out] at ho'; cases ho'; exact hh
        case measure => simp [intOf]; omega
    · obtain rfl : k = ws.length := by omega
      go_wp2_with fail
      go_ret
      have e : refWk l key = false := by
        rw [HE.out, List.any_eq_false]
        intro x hx
        obtain ⟨j, hj, rfl⟩ := List.mem_iff_getElem.1 hx
        have := HN.out j _ hj (List.getElem?_eq_getElem hj)
        simpa using this
      exact ⟨by rw [e]; rfl, HB2.out.trans (HBk.out.mono hs2)⟩
end Go.Proofs.Ytafboehdihokhaa
