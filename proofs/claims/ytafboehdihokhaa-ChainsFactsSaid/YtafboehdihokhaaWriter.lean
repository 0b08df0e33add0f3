import Derived.Test.YtafboehdihokhaaRefW
namespace Go.Proofs.Ytafboehdihokhaa
open Go.RowKit Go.Maps

def wroteB (key val : Int) (o : GOp) : Bool := o.kind == 2 && o.key == key && o.val == val
/-- crucibleref08.Writer. -/
def writerM (ts : List GTxn) (key val : Int) : Int := match ts.findIdx? (fun t => t.ops.any (wroteB key val)) with
  | some i => (i : Int)
  | none => -1

theorem writerM_at {ts : List GTxn} {key val : Int} {k : Nat} {t : GTxn} (ht : ts[k]? = some t) (hh : t.ops.any (wroteB key val) = true)
    (hno : ∀ (j : Nat) (u : GTxn), j < k → ts[j]? = some u → u.ops.any (wroteB key val) = false) : writerM ts key val = k := by
  have : ts.findIdx? (fun t => t.ops.any (wroteB key val)) = some k := by
    rw [List.findIdx?_eq_some_iff_getElem]
    have hg := List.getElem?_eq_some_iff.1 ht
    refine ⟨hg.1, by rw [hg.2]; exact hh, fun j hj => ?_⟩
    have := hno j (ts[j]'(Nat.lt_trans hj hg.1)) hj (List.getElem?_eq_getElem _)
    simp [this]
  unfold writerM; rw [this]
theorem writerM_none {ts : List GTxn} {key val : Int} (hno : ∀ (j : Nat) (u : GTxn), ts[j]? = some u → u.ops.any (wroteB key val) = false) : writerM ts key val = -1 := by
  have : ts.findIdx? (fun t => t.ops.any (wroteB key val)) = none := by
    rw [List.findIdx?_eq_none_iff]
    intro x hx
    obtain ⟨j, hj, rfl⟩ := List.mem_iff_getElem.1 hx
    exact hno j _ (List.getElem?_eq_getElem hj)
  unfold writerM; rw [this]

set_option maxRecDepth 100000 in
set_option maxHeartbeats 1000000 in
theorem writer_call (v : Value) (ts : List GTxn) (key val : Int) (w : World) (hv : RdTxns w v ts) :
    Calls Try.prog 51 #[v, .int .i64 key, .int .i64 val] w fun e w' => e = .returned (.int .i64 (writerM ts key val)) ∧ Below w.heap.size w w' := by
  have HV := Lib.hid hv
  obtain ⟨a, len, cap, rfl, rfl, hm, -⟩ := hv.at
  clear hv
  go_enter Try.func51, Try.ntmps51
  go_wp2_with fail
  go_loopw [7, 12] (fun _ i wr => ∃ k : Nat, k ≤ ts.length ∧ i = .int .i64 k ∧ (∀ j u, j < k → ts[j]? = some u → u.ops.any (wroteB key val) = false) ∧ Below w.heap.size w wr) (fun _ i _ => ts.length - (intOf i).toNat)
  case atStart => exact ⟨0, Nat.zero_le _, rfl, fun j u hj => absurd hj (Nat.not_lt_zero _), Below.refl _ _⟩
  case round =>
    obtain ⟨wk, rfl⟩ : ∃ wk : World, wk = wr := ⟨_, rfl⟩
    obtain ⟨k, hk, rfl, hno, hb⟩ := hrel
    have HN := Lib.hid hno
    have HB := Lib.hid hb
    clear hno hb
    by_cases hlt : k < ts.length
    · obtain ⟨t, ht⟩ := some_at hlt
      obtain ⟨_, _, _, e5, -, -, hcl⟩ := HV.out.at
      cases e5
      obtain ⟨b, off, oa, oc, rfl, hr, k0', k1', k2'⟩ := hcl k t ht
      have k0 := cell_later HB.out k0'
      have k1 := cell_later HB.out k1'
      have k2 := cell_later HB.out k2'
      have HT := Lib.hid ht
      have HR := Lib.hid hr
      obtain ⟨_, _, _, -, -, hmo, -⟩ := hr.at
      clear hcl ht hr k0' k1' k2'
      go_wp2_with fail
      go_loopw [9, 21] (fun _ i wr => ∃ j : Nat, j ≤ t.ops.length ∧ i = .int .i64 j ∧ (∀ m o, m < j → t.ops[m]? = some o → wroteB key val o = false) ∧ Below w.heap.size w wr) (fun _ i _ => t.ops.length - (intOf i).toNat)
      case atStart => exact ⟨0, Nat.zero_le _, rfl, fun j u hj => absurd hj (Nat.not_lt_zero _), HB.out⟩
      case round =>
        obtain ⟨wj, rfl⟩ : ∃ wj : World, wj = wr := ⟨_, rfl⟩
        obtain ⟨j, hj, rfl, hno2, hb⟩ := hrel
        have HN2 := Lib.hid hno2
        have HBj := Lib.hid hb
        have hwj := hb.size
        clear hno2 hb
        by_cases hlt2 : j < t.ops.length
        · obtain ⟨o, ho⟩ := some_at hlt2
          obtain ⟨_, _, _, e5, -, -, hcl⟩ := HR.out.at
          cases e5
          obtain ⟨ob, ooff, rfl, y0', y1', y2'⟩ := hcl j o ho
          have y0 := cell_later HBj.out y0'
          have y1 := cell_later HBj.out y1'
          have y2 := cell_later HBj.out y2'
          have HO := Lib.hid ho
          have hstep : wroteB key val o = false → ∀ m o', m < j + 1 → t.ops[m]? = some o' → wroteB key val o' = false := fun hf m o' hm' ho' => by
            rcases Nat.lt_or_ge m j with h | h
            · exact HN2.out m o' h ho'
            · obtain rfl : m = j := by omega
              rw [HO.out] at ho'; cases ho'; exact hf
          have HS := Lib.hid hstep
          clear hcl ho y0' y1' y2' hstep k0 k1 k2
          by_cases h2 : o.kind = 2
          · have h2' : (o.kind == 2) = true := by simp [h2]
            by_cases h3 : o.key = key
            · have h3' : (o.key == key) = true := by simp [h3]
              by_cases h4 : o.val = val
              · have h4' : (o.val == val) = true := by simp [h4]
                have HH := Lib.hid (show wroteB key val o = true by simp [wroteB, h2, h3, h4])
                clear h2 h3 h4
                go_wp2_with fail
                go_ret
                have hw := writerM_at HT.out (List.any_eq_true.2 ⟨o, List.mem_of_getElem? HO.out, HH.out⟩) HN.out
                exact ⟨by rw [hw]; rfl, HBj.out.alloc hwj _⟩
              · have h4' : (o.val == val) = false := by simp [h4]
                have HH := Lib.hid (show wroteB key val o = false by simp [wroteB, h4])
                clear h2 h3 h4
                go_wp2_with fail
                go_roundw
                case rel => exact ⟨j + 1, by omega, by go_num, HS.out HH.out, HBj.out.alloc hwj _⟩
                case measure => simp [intOf]; omega
            · have h3' : (o.key == key) = false := by simp [h3]
              have HH := Lib.hid (show wroteB key val o = false by simp [wroteB, h3])
              clear h2 h3
              go_wp2_with fail
              go_roundw
              case rel => exact ⟨j + 1, by omega, by go_num, HS.out HH.out, HBj.out.alloc hwj _⟩
              case measure => simp [intOf]; omega
          · have h2' : (o.kind == 2) = false := by simp [h2]
            have HH := Lib.hid (show wroteB key val o = false by simp [wroteB, h2])
            clear h2
            go_wp2_with fail
            go_roundw
            case rel => exact ⟨j + 1, by omega, by go_num, HS.out HH.out, HBj.out.alloc hwj _⟩
            case measure => simp [intOf]; omega
        · obtain rfl : j = t.ops.length := by omega
          go_wp2_with fail
          go_roundw
          case rel =>
            refine ⟨k + 1, by omega, by go_num, ?_, HBj.out⟩
            intro m u hm' hu
            rcases Nat.lt_or_ge m k with h | h
            · exact HN.out m u h hu
            · obtain rfl : m = k := by omega
              rw [HT.out] at hu; cases hu
              rw [List.any_eq_false]
              intro x hx
              obtain ⟨m, hm2, rfl⟩ := List.mem_iff_getElem.1 hx
              have := HN2.out m _ hm2 (List.getElem?_eq_getElem hm2)
              simp [this]
          case measure => simp [intOf]; omega
    · obtain rfl : k = ts.length := by omega
      go_wp2_with fail
      go_ret
      have hw := writerM_none (ts := ts) (key := key) (val := val) (fun j u hu => HN.out j u ((List.getElem?_eq_some_iff.1 hu).1) hu)
      exact ⟨by rw [hw]; rfl, HB.out⟩
end Go.Proofs.Ytafboehdihokhaa
