import Derived.Test.YtafboehdihokhaaChoices
namespace Go.Proofs.Ytafboehdihokhaa
open Go.RowKit Go.Maps

theorem revL_snoc (l : List GOp) (o : GOp) : revL (l ++ [o]) = (l.length, o) :: revL l := by
  unfold revL
  rw [List.zipIdx_append, List.map_append, List.reverse_append]
  simp
theorem revL_mem {l : List GOp} {p : Nat × GOp} (h : p ∈ revL l) : l[p.1]? = some p.2 := by
  unfold revL at h
  rw [List.mem_reverse, List.mem_map] at h
  obtain ⟨q, hq, rfl⟩ := h
  exact List.mem_zipIdx_iff_getElem?.1 hq
def findW (l : List GOp) (k : Nat) : Option (Nat × GOp) := (revL l).find? (fun p => hitB k p.2)
def atOf : Option (Nat × GOp) → Int
  | some p => p.1
  | none => -1
theorem findW_next {l : List GOp} {j : Nat} {o : GOp} (k : Nat) (h : l[j]? = some o) : findW (l.take (j + 1)) k = if hitB k o then some (j, o) else findW (l.take j) k := by
  have hj : (l.take j).length = j := by
    have := (List.getElem?_eq_some_iff.1 h).1
    simp; omega
  rw [take_at h]; unfold findW; rw [revL_snoc, List.find?_cons, hj]
  cases hitB k o <;> simp
theorem findW_last (l : List GOp) (k : Nat) : lastW l k = (findW l k).map (·.2) := rfl

set_option maxRecDepth 100000 in
set_option maxHeartbeats 1000000 in
theorem refWrites_call (c s : Int) (v : Value) (l : List GOp) (w : World) (hv : RdOps w v l) (hl : l.length ≤ 1048576) :
    Calls Try.prog 30 #[.agg #[vi c, vi s, v]] w fun e w' => ∃ v', e = .returned v' ∧ OwOps w.heap.size w' v' (writesM l) ∧ Below w.heap.size w w' := by
  have hB : Below w.heap.size w (w.alloc (.cells #[vi c, vi s, v] 62)) := (Below.refl _ _).alloc (Nat.le_refl _) _
  have hV := hv.later hB
  have hs0 : (w.alloc (.cells #[vi c, vi s, v] 62)).heap.size = w.heap.size + 1 := by simp
  have c0 : (w.alloc (.cells #[vi c, vi s, v] 62)).cell? ⟨w.heap.size, 0, none⟩ = some (vi c) := by rw [World.cell?_alloc_at _ _ _ _ rfl]; rfl
  have c1 : (w.alloc (.cells #[vi c, vi s, v] 62)).cell? ⟨w.heap.size, 1, none⟩ = some (vi s) := by rw [World.cell?_alloc_at _ _ _ _ rfl]; rfl
  have c2 : (w.alloc (.cells #[vi c, vi s, v] 62)).cell? ⟨w.heap.size, 2, none⟩ = some v := by rw [World.cell?_alloc_at _ _ _ _ rfl]; rfl
  obtain ⟨a, len, cap, rfl, rfl, hm, -⟩ := hv.at
  have HV := Lib.hid hV
  have HB := Lib.hid hB
  have HC2 := Lib.hid c2
  clear hv hV hB c0 c1 c2
  go_enter Try.func30, Try.ntmps30
  go_wp2_with fail
  generalize w.alloc (.cells #[vi c, vi s, .slice a l.length cap] 62) = W0 at *
  go_loopw [3, 4] (fun v i wr => ∃ k : Nat, k ≤ 16 ∧ i = .int .i64 k ∧ OwOps W0.heap.size wr v (writesTo l k) ∧ Below W0.heap.size W0 wr) (fun _ i _ => 16 - (intOf i).toNat)
  case atStart =>
    refine ⟨0, Nat.zero_le _, rfl, ?_, (Below.refl _ _).alloc (Nat.le_refl _) _⟩
    have := World.ownsRow_lit (base := W0.heap.size) (e := 64) (size := 3) W0 #[] 0 (Nat.le_refl _) (by simp [maxLen]) rfl
    rw [hs0] at this ⊢
    exact this
  case round =>
    obtain ⟨wk, rfl⟩ : ∃ wk : World, wk = wr := ⟨_, rfl⟩
    obtain ⟨k, hk, rfl, ho, hb⟩ := hrel
    have HOk := Lib.hid ho
    have HBk := Lib.hid hb
    have hwk := hb.size
    have c2 := cell_later hb HC2.out
    clear ho hb
    by_cases hlt : k < 16
    · have hk16 : (k : Int) < 16 := by omega
      have hck := writesTo_le l k
      have HN := Lib.hid (writesTo_succ l k)
      go_wp2_with fail
      go_loopw [5, 6, 7, 16] (fun at' _ _ i wr => ∃ j : Nat, j ≤ l.length ∧ i = .int .i64 j ∧ at' = .int .i64 (atOf (findW (l.take j) k)) ∧ OwOps W0.heap.size wr u3 (writesTo l k) ∧ Below W0.heap.size W0 wr) (fun _ _ _ i _ => l.length - (intOf i).toNat)
      case atStart => exact ⟨0, Nat.zero_le _, rfl, rfl, HOk.out, HBk.out⟩
      case round =>
        obtain ⟨wj, rfl⟩ : ∃ wj : World, wj = wr := ⟨_, rfl⟩
        obtain ⟨j, hj, rfl, rfl, ho, hb⟩ := hrel
        have HOj := Lib.hid ho
        have HBj := Lib.hid hb
        have hwj := hb.size
        have c2 := cell_later hb HC2.out
        clear ho hb
        by_cases hlt2 : j < l.length
        · obtain ⟨o, ho⟩ := some_at hlt2
          obtain ⟨_, _, _, e5, -, -, hcl⟩ := HV.out.at
          cases e5
          obtain ⟨b, off, rfl, k0', k1', k2'⟩ := hcl j o ho
          have k0 := cell_later HBj.out k0'
          have k1 := cell_later HBj.out k1'
          have k2 := cell_later HBj.out k2'
          have HF := Lib.hid (findW_next k ho)
          clear hcl ho k0' k1' k2'
          by_cases h2 : o.kind = 2
          · have h2' : (o.kind == 2) = true := by simp [h2]
            by_cases h3 : o.key = (k : Int)
            · have h3' : (o.key == (k : Int)) = true := by simp [h3]
              have HH := Lib.hid (show hitB k o = true by simp [hitB, h2, h3])
              clear h2 h3
              go_wp2_with fail
              go_roundw
              case rel =>
                refine ⟨j + 1, by omega, by go_num, ?_, HOj.out.alloc _, HBj.out.alloc hwj _⟩
                rw [HF.out, HH.out]; rfl
              case measure => simp [intOf]; omega
            · have h3' : (o.key == (k : Int)) = false := by simp [h3]
              have HH := Lib.hid (show hitB k o = false by simp [hitB, h2, h3])
              clear h2 h3
              go_wp2_with fail
              go_roundw
              case rel =>
                refine ⟨j + 1, by omega, by go_num, ?_, HOj.out.alloc _, HBj.out.alloc hwj _⟩
                rw [HF.out, HH.out]; rfl
              case measure => simp [intOf]; omega
          · have h2' : (o.kind == 2) = false := by simp [h2]
            have HH := Lib.hid (show hitB k o = false by simp [hitB, h2])
            clear h2
            go_wp2_with fail
            go_roundw
            case rel =>
              refine ⟨j + 1, by omega, by go_num, ?_, HOj.out.alloc _, HBj.out.alloc hwj _⟩
              rw [HF.out, HH.out]; rfl
            case measure => simp [intOf]; omega
        · obtain rfl : j = l.length := by omega
          rw [List.take_length]
          have hlk := findW_last l k
          cases hf : findW l k with
          | none =>
            rw [hf] at hlk
            simp only [atOf]
            go_wp2_with fail
            go_roundw
            case rel =>
              refine ⟨k + 1, by omega, by go_num, ?_, HBj.out⟩
              rw [HN.out, hlk]; simpa using HOj.out
            case measure => simp [intOf]; omega
          | some p =>
            obtain ⟨i, o⟩ := p
            have hio := revL_mem (List.mem_of_find?_eq_some hf)
            have hil := (List.getElem?_eq_some_iff.1 hio).1
            obtain ⟨_, _, _, e5, -, -, hcl⟩ := HV.out.at
            cases e5
            obtain ⟨b, off, rfl, k0', k1', k2'⟩ := hcl i o hio
            have k0 := cell_later HBj.out k0'
            have k1 := cell_later HBj.out k1'
            have k2 := cell_later HBj.out k2'
            have hi0 : (0 : Int) ≤ (i : Int) := by omega
            have HL := Lib.hid (show lastW l k = some o by rw [hlk, hf]; rfl)
            clear hcl hio k0' k1' k2' hf hlk
            simp only [atOf]
            go_wp2_with (at_builtin; refine wpList_append_src rfl _ _ 60 rfl eltOp W0.heap.size (writesTo l k).length _ (HOj.out.alloc _) rfl 1 (opV o) (src_new (cs := #[vi o.kind, vi o.key, vi o.val]) rfl rfl) rfl (by intro u hu; simp [opV] at hu; rcases hu with rfl | rfl | rfl <;> rfl) (by omega) (by omega) (by simp; omega) ?_; intro v1 w2 ho1 hg1 _)
            have hbl : ∀ j, u3.ownBlock = some j → W0.heap.size ≤ j := fun j hj => (HOj.out.lt j hj).1
            go_roundw
            case rel =>
              refine ⟨k + 1, by omega, by go_num, ?_, ?_⟩
              · rw [HN.out, HL.out]; simpa [OwOps] using ho1
              · exact (HBj.out.alloc hwj _).grown hg1 (by simp; omega) hbl
            case measure => simp [intOf]; omega
    · obtain rfl : k = 16 := by omega
      go_wp2_with fail
      go_ret
      exact ⟨_, rfl, own_mono HOk.out (by omega), HB.out.trans (HBk.out.mono (by omega))⟩
end Go.Proofs.Ytafboehdihokhaa
