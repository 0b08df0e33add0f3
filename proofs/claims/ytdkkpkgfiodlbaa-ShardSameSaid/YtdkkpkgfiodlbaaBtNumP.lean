/- Numbers in bits: what is written is read. Plain. Names no program. -/
import Derived.Test.YtdkkpkgfiodlbaaBtInt
import Derived.Test.YtdkkpkgfiodlbaaBtRd
namespace Go.Proofs.Ytdkkpkgfiodlbaa

theorem bitLen_pow {m v : Nat} (hm : m < 64) (hv : v < 2 ^ m) : Lib.bitLen (2 ^ m + v) = m + 1 := by
  have h2 : 2 ^ m + v < 2 ^ 64 := by
    have : 2 ^ (m + 1) ≤ 2 ^ 64 := Nat.pow_le_pow_right (by decide) (by omega)
    rw [Nat.pow_succ] at this; omega
  rw [Lib.bitLen_shift m _ (Nat.le_add_right _ _) h2, Nat.add_comm (2 ^ m) v, Nat.add_div_right _ (Nat.two_pow_pos _), Nat.div_eq_of_lt hv]
  rfl
theorem putL_top {m v : Nat} (hv : v < 2 ^ m) : putL (2 ^ m + v) (m + 1) = true :: putL v m := by
  rw [putL, Nat.add_comm (2 ^ m) v, Nat.add_div_right _ (Nat.two_pow_pos _), Nat.div_eq_of_lt hv]
  congr 1
  have := putL_valL (putL (v + 2 ^ m) m)
  rw [putL_length, valL_putL, Nat.add_mod_right] at this
  have h2 := putL_valL (putL v m)
  rw [putL_length, valL_putL] at h2
  rw [← this, h2]
theorem numL_of {m : Nat} {tl : List Bool} (h : tl.length = m) (hm : m ≤ 64) (hv : 2 ^ m + valL tl ≤ 2 ^ 64) : numL (2 ^ m + valL tl - 1) = List.replicate m false ++ true :: tl := by
  have hlt := valL_lt tl
  rw [h] at hlt
  by_cases h64 : m = 64
  · subst h64
    have hz : valL tl = 0 := by omega
    have ht := valL_zero tl hz
    rw [h] at ht
    have h2 : valL (List.replicate 64 false) = 0 := valL_falses 64
    rw [ht, h2]; unfold numL
    rw [if_pos (by decide), putL_zero, List.append_assoc]; rfl
  · have hm2 : m < 64 := by omega
    have hp : 2 ^ (m + 1) ≤ 2 ^ 64 := Nat.pow_le_pow_right (by decide) (by omega)
    rw [Nat.pow_succ] at hp
    have hpos := Nat.two_pow_pos m
    unfold numL
    rw [if_neg (by omega)]
    have e : 2 ^ m + valL tl - 1 + 1 = 2 ^ m + valL tl := by omega
    rw [e, bitLen_pow hm2 hlt, putL_top hlt, putL_zero, Nat.add_sub_cancel]
    congr 2
    rw [← h]; exact putL_valL tl
theorem numL_form {y : Nat} (hy : y < 2 ^ 64) : ∃ m tl, tl.length = m ∧ m ≤ 64 ∧ y = 2 ^ m + valL tl - 1 ∧ 2 ^ m + valL tl ≤ 2 ^ 64 ∧ numL y = List.replicate m false ++ true :: tl := by
  have key : ∃ m tl, tl.length = m ∧ m ≤ 64 ∧ y = 2 ^ m + valL tl - 1 ∧ 2 ^ m + valL tl ≤ 2 ^ 64 := by
    by_cases h : y = 2 ^ 64 - 1
    · exact ⟨64, List.replicate 64 false, by simp, Nat.le_refl _, by rw [valL_falses]; omega, by rw [valL_falses]; omega⟩
    · have hlog : ∃ m, m < 64 ∧ 2 ^ m ≤ y + 1 ∧ y + 1 < 2 ^ (m + 1) := by
        have : ∀ k, y + 1 < 2 ^ k → k ≤ 64 → ∃ m, m < k ∧ 2 ^ m ≤ y + 1 ∧ y + 1 < 2 ^ (m + 1) := by
          intro k
          induction k with
          | zero => intro h _; omega
          | succ k ih =>
            intro h hk
            by_cases h2 : y + 1 < 2 ^ k
            · obtain ⟨m, a, b, c⟩ := ih h2 (by omega)
              exact ⟨m, by omega, b, c⟩
            · exact ⟨k, by omega, by omega, h⟩
        exact this 64 (by omega) (Nat.le_refl _)
      obtain ⟨m, hm, h1, h2⟩ := hlog
      have hv : valL (putL (y + 1 - 2 ^ m) m) = y + 1 - 2 ^ m := by
        rw [valL_putL, Nat.mod_eq_of_lt (by rw [Nat.pow_succ] at h2; omega)]
      exact ⟨m, putL (y + 1 - 2 ^ m) m, putL_length _ _, by omega, by rw [hv]; omega, by rw [hv]; omega⟩
  obtain ⟨m, tl, h1, h2, h3, h4⟩ := key
  refine ⟨m, tl, h1, h2, h3, h4, ?_⟩
  rw [h3]; exact numL_of h1 h2 h4
theorem falses_inj : ∀ {k m : Nat} {a b : List Bool}, List.replicate k false ++ true :: a = List.replicate m false ++ true :: b → k = m ∧ a = b
  | 0, 0, a, b, h => by simpa using h
  | 0, m + 1, a, b, h => by simp [List.replicate_succ] at h
  | k + 1, 0, a, b, h => by simp [List.replicate_succ] at h
  | k + 1, m + 1, a, b, h => by
    simp only [List.replicate_succ, List.cons_append, List.cons.injEq, true_and] at h
    obtain ⟨h1, h2⟩ := falses_inj h
    exact ⟨by omega, h2⟩
theorem falses_none : ∀ {k m : Nat} {a : List Bool}, List.replicate k false ≠ List.replicate m false ++ true :: a
  | 0, 0, a, h => by simp at h
  | 0, m + 1, a, h => by simp [List.replicate_succ] at h
  | k + 1, 0, a, h => by simp [List.replicate_succ] at h
  | k + 1, m + 1, a, h => by
    simp only [List.replicate_succ, List.cons_append, List.cons.injEq, true_and] at h
    exact falses_none h
theorem falses_more : ∀ {k m : Nat} {a b : List Bool}, List.replicate k false ++ b = List.replicate m false ++ true :: a → k ≤ m
  | 0, _, _, _, _ => by omega
  | k + 1, 0, a, b, h => by simp [List.replicate_succ] at h
  | k + 1, m + 1, a, b, h => by
    simp only [List.replicate_succ, List.cons_append, List.cons.injEq, true_and] at h
    have := falses_more h
    omega
abbrev NumOk (x : Nat) : Prop := x < 2 ^ 64
/-- It stopped. -/
theorem num_stop {s s' : Rd} {x : Nat} (hb : s'.bad ≠ 0) (h : s.bad = 0 → ∀ y t, NumOk y → s.rest ≠ numL y ++ t) : RdOK numL NumOk s s' x :=
  ⟨fun h0 y t hy e => absurd e (h h0 y t hy), fun h0 => absurd h0 hb⟩
theorem num_short {k : Nat} {s : Rd} (h : s.rest = List.replicate k false) (y : Nat) (t : List Bool) (hy : NumOk y) : s.rest ≠ numL y ++ t := by
  obtain ⟨m, tl, _, _, _, _, e⟩ := numL_form hy
  rw [h, e, List.append_assoc]; exact falses_none
theorem num_form {s : Rd} {b : List Bool} (h : s.rest = List.replicate 65 false ++ b) (y : Nat) (t : List Bool) (hy : NumOk y) : s.rest ≠ numL y ++ t := by
  obtain ⟨m, tl, _, hm, _, _, e⟩ := numL_form hy
  rw [h, e, List.append_assoc]; intro e2
  have := falses_more e2
  omega
/-- Too few bits behind the one, or, behind 64 noughts, others than noughts. -/
theorem num_cut {k : Nat} {s : Rd} {r : List Bool} (h : s.rest = List.replicate k false ++ true :: r) (hc : r.length < k ∨ (k = 64 ∧ valL (r.take 64) ≠ 0)) (y : Nat) (t : List Bool) (hy : NumOk y) : s.rest ≠ numL y ++ t := by
  obtain ⟨m, tl, hl, hm, _, hv, e⟩ := numL_form hy
  rw [h, e, List.append_assoc]; intro e2
  obtain ⟨rfl, e3⟩ := falses_inj (b := tl ++ t) e2
  rcases hc with hc | ⟨rfl, hc⟩
  · rw [e3] at hc; simp at hc; omega
  · rw [e3, ← hl, List.take_left] at hc
    omega
/-- A number. -/
theorem num_read {k : Nat} {s : Rd} {r : List Bool} (h0 : s.bad = 0) (h : s.rest = List.replicate k false ++ true :: r) (hk : k ≤ 64) (hr : k ≤ r.length) (hv : 2 ^ k + valL (r.take k) ≤ 2 ^ 64) {x : Nat} (hx : x = 2 ^ k + valL (r.take k) - 1) : RdOK numL NumOk s ⟨r.drop k, 0⟩ x := by
  have hl : (r.take k).length = k := by rw [List.length_take]; omega
  have e := numL_of hl hk hv
  rw [← hx] at e
  have hpos := Nat.two_pow_pos k
  have hxo : NumOk x := by unfold NumOk; omega
  refine ⟨fun _ y t hy e2 => ?_, fun _ => ⟨h0, hxo, ?_⟩⟩
  · obtain ⟨m, tl, hl2, hm, hy2, hv2, e3⟩ := numL_form hy
    rw [h, e3, List.append_assoc] at e2
    obtain ⟨rfl, e4⟩ := falses_inj (b := tl ++ t) e2
    refine ⟨?_, ?_, rfl⟩
    · rw [hx, hy2, e4, ← hl2, List.take_left]
    · show r.drop k = t
      rw [e4, ← hl2, List.drop_left]
  · rw [e, h, List.append_assoc]
    show _ = List.replicate k false ++ true :: (r.take k ++ r.drop k)
    rw [List.take_append_drop]
end Go.Proofs.Ytdkkpkgfiodlbaa