import Derived.Test.YtafboehdihokhaaWriter
namespace Go.Proofs.Ytafboehdihokhaa
open Go.RowKit Go.Maps

theorem foldR_keys (x : Int) : ∀ (l : List GOp) (st : List (Int × Bool) × List GOp), (getM (l.foldl stepR st).1 x).isSome = ((getM st.1 x).isSome || l.any (hitK x)) := by
  intro l
  induction l with
  | nil => intro st; simp
  | cons o l ih =>
    intro st
    rw [List.foldl_cons, ih, List.any_cons]
    by_cases h2 : o.kind = 2
    · unfold stepR; rw [if_pos h2, getM_put]
      by_cases h3 : o.key = x
      · simp [hitK, h2, h3]
      · rw [if_neg h3, show hitK x o = false by simp [hitK, h3]]; simp
    · unfold stepR; rw [if_neg h2]
      have : hitK x o = false := by simp [hitK, h2]
      rw [this]
      split <;> simp
theorem readsS_keys (l : List GOp) (x : Int) : (getM (readsS l).1 x).isSome = l.any (hitK x) := by
  unfold readsS; rw [foldR_keys]; simp [getM_nil]
def refR (s : Int) (l : List GOp) (n : Nat) : List GOp := if s = 1 then (readsS (l.take n)).2 else []
theorem refR_succ {s : Int} {l : List GOp} {n : Nat} {o : GOp} (h : l[n]? = some o) : refR s l (n + 1) = refR s l n ++ (if s == 1 && o.kind != 2 && !((l.take n).any (hitK o.key)) then [o] else []) := by
  unfold refR
  by_cases hs : s = 1
  · rw [if_pos hs, if_pos hs, readsS_next h]
    have hk := readsS_keys (l.take n) o.key
    by_cases h2 : o.kind = 2
    · unfold stepR; rw [if_pos h2]; simp [h2]
    · unfold stepR; rw [if_neg h2, hk]
      cases (l.take n).any (hitK o.key) <;> simp [hs, h2]
  · simp [hs]
theorem refR_le (s : Int) (l : List GOp) (n : Nat) : (refR s l n).length ≤ n := by
  unfold refR; split
  · exact Nat.le_trans (readsS_le _) (List.length_take_le _ _)
  · simp
theorem any_next {α : Type} {p : α → Bool} {l : List α} {j : Nat} {x : α} (h : l[j]? = some x) : (l.take (j + 1)).any p = ((l.take j).any p || p x) := by
  rw [take_at h, List.any_append]; simp

set_option maxRecDepth 100000 in
set_option maxHeartbeats 1000000 in
theorem refReads_call (c s : Int) (v : Value) (l : List GOp) (w : World) (hv : RdOps w v l) (hl : l.length ≤ 1048576) :
    Calls Try.prog 50 #[.agg #[vi c, vi s, v]] w fun e w' => ∃ v', e = .returned v' ∧ OwOps w.heap.size w' v' (readsM ⟨c, s, l⟩) ∧ Below w.heap.size w w' := by
  have hB : Below w.heap.size w (w.alloc (.cells #[vi c, vi s, v] 62)) := (Below.refl _ _).alloc (Nat.le_refl _) _
  have hV := hv.later hB
  have hs0 : (w.alloc (.cells #[vi c, vi s, v] 62)).heap.size = w.heap.size + 1 := by simp
  have c1 : (w.alloc (.cells #[vi c, vi s, v] 62)).cell? ⟨w.heap.size, 1, none⟩ = some (vi s) := by rw [World.cell?_alloc_at _ _ _ _ rfl]; rfl
  have c2 : (w.alloc (.cells #[vi c, vi s, v] 62)).cell? ⟨w.heap.size, 2, none⟩ = some v := by rw [World.cell?_alloc_at _ _ _ _ rfl]; rfl
  obtain ⟨a, len, cap, rfl, rfl, hm, -⟩ := hv.at
  have HV := Lib.hid hV
  have HB := Lib.hid hB
  have HC1 := Lib.hid c1
  have HC2 := Lib.hid c2
  clear hv hV hB c1 c2
  go_enter Try.func50, Try.ntmps50
  go_wp2_with fail
  generalize w.alloc (.cells #[vi c, vi s, .slice a l.length cap] 62) = W0 at *
  go_loopw [3, 4, 5, 6, 7, 12] (fun v _ _ _ _ i wr => ∃ k : Nat, k ≤ l.length ∧ i = .int .i64 k ∧ OwOps W0.heap.size wr v (refR s l k) ∧ Below W0.heap.size W0 wr) (fun _ _ _ _ _ i _ => l.length - (intOf i).toNat)
  case atStart =>
    refine ⟨0, Nat.zero_le _, rfl, ?_, (Below.refl _ _).alloc (Nat.le_refl _) _⟩
    have := World.ownsRow_lit (base := W0.heap.size) (e := 64) (size := 3) W0 #[] 0 (Nat.le_refl _) (by simp [maxLen]) rfl
    rw [hs0] at this ⊢
    have e : refR s l 0 = [] := by unfold refR; split <;> rfl
    rw [e]; exact this
  case round =>
    obtain ⟨wi, rfl⟩ : ∃ wi : World, wi = wr := ⟨_, rfl⟩
    obtain ⟨k, hk, rfl, ho, hb⟩ := hrel
    have HOk := Lib.hid ho
    have HBk := Lib.hid hb
    have hwk := hb.size
    clear ho hb
    by_cases hlt : k < l.length
    · obtain ⟨o, ho⟩ := some_at hlt
      obtain ⟨_, _, _, e5, -, -, hcl⟩ := HV.out.at
      cases e5
      obtain ⟨b, off, rfl, k0', k1', k2'⟩ := hcl k o ho
      have k0 := cell_later HBk.out k0'
      have k1 := cell_later HBk.out k1'
      have k2 := cell_later HBk.out k2'
      have HN := Lib.hid (refR_succ (s := s) ho)
      have HC := Lib.hid hcl
      have hle := refR_le s l k
      clear hcl ho k0' k1' k2'
      go_wp2_with fail
      have x0 : (wi.alloc (.cells #[vi o.kind, vi o.key, vi o.val] 64)).cell? ⟨wi.heap.size, 0, none⟩ = some (vi o.kind) := by rw [World.cell?_alloc_at _ _ _ _ rfl]; rfl
      have x1 : (wi.alloc (.cells #[vi o.kind, vi o.key, vi o.val] 64)).cell? ⟨wi.heap.size, 1, none⟩ = some (vi o.key) := by rw [World.cell?_alloc_at _ _ _ _ rfl]; rfl
      have x2 : (wi.alloc (.cells #[vi o.kind, vi o.key, vi o.val] 64)).cell? ⟨wi.heap.size, 2, none⟩ = some (vi o.val) := by rw [World.cell?_alloc_at _ _ _ _ rfl]; rfl
      have hO1 := HOk.out.alloc (.cells #[vi o.kind, vi o.key, vi o.val] 64)
      have hB1 := HBk.out.alloc hwk (.cells #[vi o.kind, vi o.key, vi o.val] 64)
      generalize wi.alloc (.cells #[vi o.kind, vi o.key, vi o.val] 64) = W1 at *
      have X0 := Lib.hid x0
      have X1 := Lib.hid x1
      have X2 := Lib.hid x2
      have HO1 := Lib.hid hO1
      have HB1 := Lib.hid hB1
      clear x0 x1 x2 hO1 hB1
      go_loopw [6, 7] (fun m i wr => ∃ j : Nat, j ≤ k ∧ i = .int .i64 j ∧ m = .bool ((l.take j).any (hitK o.key)) ∧ Below W1.heap.size W1 wr) (fun _ i _ => k - (intOf i).toNat)
      case atStart => exact ⟨0, Nat.zero_le _, rfl, rfl, Below.refl _ _⟩
      case round =>
        obtain ⟨wj, rfl⟩ : ∃ wj : World, wj = wr := ⟨_, rfl⟩
        obtain ⟨j, hj, rfl, rfl, hb⟩ := hrel
        have HBj := Lib.hid hb
        have hwj := hb.size
        have c1 := cell_later hb (cell_later HB1.out HC1.out)
        have c2 := cell_later hb (cell_later HB1.out HC2.out)
        have x0 := cell_later hb X0.out
        have x1 := cell_later hb X1.out
        have x2 := cell_later hb X2.out
        clear hb
        by_cases hlt2 : j < k
        · obtain ⟨p, hp⟩ := some_at (l := l) (k := j) (by omega)
          obtain ⟨_, _, e6, y0', y1', y2'⟩ := HC.out j p hp
          cases e6
          have y0 := cell_later HBj.out (cell_later HB1.out y0')
          have y1 := cell_later HBj.out (cell_later HB1.out y1')
          have y2 := cell_later HBj.out (cell_later HB1.out y2')
          have HA := Lib.hid (any_next (p := hitK o.key) hp)
          have hj1 : (j : Int) < (k : Int) := by omega
          have hj2 : (j : Int) < (l.length : Int) := by omega
          have hj0 : (0 : Int) ≤ (j : Int) := by omega
          clear hp y0' y1' y2'
          cases hb : (l.take j).any (hitK o.key) with
          | true =>
            rw [hb] at HA
            clear hb
            go_wp2
            go_quiet (fail)
            go_wp2
            go_roundw
            case rel => exact ⟨j + 1, by omega, by go_num, by rw [HA.out]; rfl, below_drewN HBj.out _⟩
            case measure => simp [intOf]; omega
          | false =>
            rw [hb] at HA
            clear hb
            by_cases h2 : p.kind = 2
            · have h2' : (p.kind == 2) = true := by simp [h2]
              cases h3 : p.key == o.key with
              | true =>
                have HH := Lib.hid (show hitK o.key p = true by simp [hitK, h2, h3])
                clear h2
                go_wp2
                go_quiet (fail)
                go_wp2
                go_roundw
                case rel => exact ⟨j + 1, by omega, by go_num, by rw [HA.out, HH.out]; rfl, below_drewN HBj.out _⟩
                case measure => simp [intOf]; omega
              | false =>
                have HH := Lib.hid (show hitK o.key p = false by simp [hitK, h3])
                clear h2
                go_wp2
                go_quiet (fail)
                go_wp2
                go_roundw
                case rel => exact ⟨j + 1, by omega, by go_num, by rw [HA.out, HH.out]; rfl, below_drewN HBj.out _⟩
                case measure => simp [intOf]; omega
            · have h2' : (p.kind == 2) = false := by simp [h2]
              have HH := Lib.hid (show hitK o.key p = false by simp [hitK, h2])
              clear h2
              go_wp2
              go_quiet (fail)
              go_wp2
              go_roundw
              case rel => exact ⟨j + 1, by omega, by go_num, by rw [HA.out, HH.out]; rfl, below_drewN HBj.out _⟩
              case measure => simp [intOf]; omega
        · obtain rfl : j = k := by omega
          have HOj := Lib.hid (own_below HO1.out HBj.out)
          have HBB := Lib.hid (HB1.out.trans (HBj.out.mono HB1.out.size))
          have hwb := HBB.out.size
          clear k0 k1 k2
          generalize hmn : (l.take j).any (hitK o.key) = mine at *
          clear hmn
          go_upto_region 10 with fail
          go_cut [54] (fun r wx => r = .bool (s == 1 && o.kind != 2 && !mine) ∧ wx = wj)
          case first =>
            by_cases hs : s = 1
            · have h1 : (s == 1) = true := by simp [hs]
              by_cases h2 : o.kind = 2
              · have h2' : (o.kind != 2) = false := by simp [h2]
                clear hs h2
                go_wp2_with fail
                all_goals (go_meet; exact ⟨by rw [h1, h2']; rfl, rfl⟩)
              · have h2' : (o.kind != 2) = true := by simp [h2]
                clear hs h2
                go_wp2_with fail
                all_goals (go_meet; exact ⟨by rw [h1, h2']; rfl, rfl⟩)
            · have h1 : (s == 1) = false := by simp [hs]
              clear hs
              go_wp2_with fail
              all_goals (go_meet; exact ⟨by rw [h1]; rfl, rfl⟩)
          case rest =>
            obtain ⟨rfl, rfl⟩ := hcut
            cases hc : (s == 1 && o.kind != 2 && !mine) with
            | true =>
              rw [hc] at HN
              clear hc
              go_wp2_with (at_builtin; refine wpList_append_src rfl _ _ 60 rfl eltOp W0.heap.size (refR s l j).length _ (HOj.out.alloc _) rfl 1 (opV o) (src_new (cs := #[vi o.kind, vi o.key, vi o.val]) rfl rfl) rfl (by intro u hu; simp [opV] at hu; rcases hu with rfl | rfl | rfl <;> rfl) (by omega) (by omega) (by simp; omega) ?_; intro v1 w2 ho1 hg1 _)
              have hbl : ∀ j, u3.ownBlock = some j → W0.heap.size ≤ j := fun j hj => (HOj.out.lt j hj).1
              go_roundw
              case rel =>
                refine ⟨j + 1, by omega, by go_num, ?_, ?_⟩
                · rw [HN.out]; simpa [OwOps] using ho1
                · exact (HBB.out.alloc hwb _).grown hg1 (by simp; omega) hbl
              case measure => simp [intOf]; omega
            | false =>
              rw [hc] at HN
              clear hc
              go_wp2_with fail
              go_roundw
              case rel =>
                refine ⟨j + 1, by omega, by go_num, ?_, HBB.out⟩
                rw [HN.out]; simpa [OwOps] using HOj.out
              case measure => simp [intOf]; omega
    · obtain rfl : k = l.length := by omega
      go_wp2_with fail
      go_ret
      refine ⟨_, rfl, ?_, HB.out.trans (HBk.out.mono (by omega))⟩
      have e : refR s l l.length = readsM ⟨c, s, l⟩ := by unfold refR readsM; rw [List.take_length]
      rw [← e]; exact own_mono HOk.out (by omega)
end Go.Proofs.Ytafboehdihokhaa
