/- Texts of one proof, one behind the other: BtNumP, BtNumR, BtIntR, MvBits, BtSeq. -/
import Derived.Test.YtdkkpkgfiodlbaaJa12
import Derived.Test.YtdkkpkgfiodlbaaJa2
set_option linter.all false
/- Numbers in bits: what is written is read. Plain. Names no program. -/
namespace Go.Proofs.Ytdkkpkgfiodlbaa

theorem bitLen_pow {m v : Nat} (hm : m < 64) (hv : v < 2 ^ m) : Lib.bitLen (2 ^ m + v) = m + 1 := by
  have h2 : 2 ^ m + v < 2 ^ 64 := by
    have : 2 ^ (m + 1) ≤ 2 ^ 64 := Nat.pow_le_pow_right (by decide) (by omega)
    rw [Nat.pow_succ] at this; omega
  rw [Lib.bitLen_shift m _ (Nat.le_add_right _ _) h2, Nat.add_comm (2 ^ m) v, Nat.add_div_right _ (Nat.two_pow_pos _), Nat.div_eq_of_lt hv]
  rfl
theorem putL_top {m v : Nat} (hv : v < 2 ^ m) : putL (2 ^ m + v) (m + 1) = true :: putL v m := by
  rw [putL, Nat.add_comm (2 ^ m) v, Nat.add_div_right _ (Nat.two_pow_pos _), Nat.div_eq_of_lt hv]
  congr 1
  have := putL_valL (putL (v + 2 ^ m) m)
  rw [putL_length, valL_putL, Nat.add_mod_right] at this
  have h2 := putL_valL (putL v m)
  rw [putL_length, valL_putL] at h2
  rw [← this, h2]
theorem numL_of {m : Nat} {tl : List Bool} (h : tl.length = m) (hm : m ≤ 64) (hv : 2 ^ m + valL tl ≤ 2 ^ 64) : numL (2 ^ m + valL tl - 1) = List.replicate m false ++ true :: tl := by
  have hlt := valL_lt tl
  rw [h] at hlt
  by_cases h64 : m = 64
  · subst h64
    have hz : valL tl = 0 := by omega
    have ht := valL_zero tl hz
    rw [h] at ht
    have h2 : valL (List.replicate 64 false) = 0 := valL_falses 64
    rw [ht, h2]; unfold numL
    rw [if_pos (by decide), putL_zero, List.append_assoc]; rfl
  · have hm2 : m < 64 := by omega
    have hp : 2 ^ (m + 1) ≤ 2 ^ 64 := Nat.pow_le_pow_right (by decide) (by omega)
    rw [Nat.pow_succ] at hp
    have hpos := Nat.two_pow_pos m
    unfold numL
    rw [if_neg (by omega)]
    have e : 2 ^ m + valL tl - 1 + 1 = 2 ^ m + valL tl := by omega
    rw [e, bitLen_pow hm2 hlt, putL_top hlt, putL_zero, Nat.add_sub_cancel]
    congr 2
    rw [← h]; exact putL_valL tl
theorem numL_form {y : Nat} (hy : y < 2 ^ 64) : ∃ m tl, tl.length = m ∧ m ≤ 64 ∧ y = 2 ^ m + valL tl - 1 ∧ 2 ^ m + valL tl ≤ 2 ^ 64 ∧ numL y = List.replicate m false ++ true :: tl := by
  have key : ∃ m tl, tl.length = m ∧ m ≤ 64 ∧ y = 2 ^ m + valL tl - 1 ∧ 2 ^ m + valL tl ≤ 2 ^ 64 := by
    by_cases h : y = 2 ^ 64 - 1
    · exact ⟨64, List.replicate 64 false, by simp, Nat.le_refl _, by rw [valL_falses]; omega, by rw [valL_falses]; omega⟩
    · have hlog : ∃ m, m < 64 ∧ 2 ^ m ≤ y + 1 ∧ y + 1 < 2 ^ (m + 1) := by
        have : ∀ k, y + 1 < 2 ^ k → k ≤ 64 → ∃ m, m < k ∧ 2 ^ m ≤ y + 1 ∧ y + 1 < 2 ^ (m + 1) := by
          intro k
          induction k with
          | zero => intro h _; omega
          | succ k ih =>
            intro h hk
            by_cases h2 : y + 1 < 2 ^ k
            · obtain ⟨m, a, b, c⟩ := ih h2 (by omega)
              exact ⟨m, by omega, b, c⟩
            · exact ⟨k, by omega, by omega, h⟩
        exact this 64 (by omega) (Nat.le_refl _)
      obtain ⟨m, hm, h1, h2⟩ := hlog
      have hv : valL (putL (y + 1 - 2 ^ m) m) = y + 1 - 2 ^ m := by
        rw [valL_putL, Nat.mod_eq_of_lt (by rw [Nat.pow_succ] at h2; omega)]
      exact ⟨m, putL (y + 1 - 2 ^ m) m, putL_length _ _, by omega, by rw [hv]; omega, by rw [hv]; omega⟩
  obtain ⟨m, tl, h1, h2, h3, h4⟩ := key
  refine ⟨m, tl, h1, h2, h3, h4, ?_⟩
  rw [h3]; exact numL_of h1 h2 h4
theorem falses_inj : ∀ {k m : Nat} {a b : List Bool}, List.replicate k false ++ true :: a = List.replicate m false ++ true :: b → k = m ∧ a = b
  | 0, 0, a, b, h => by simpa using h
  | 0, m + 1, a, b, h => by simp [List.replicate_succ] at h
  | k + 1, 0, a, b, h => by simp [List.replicate_succ] at h
  | k + 1, m + 1, a, b, h => by
    simp only [List.replicate_succ, List.cons_append, List.cons.injEq, true_and] at h
    obtain ⟨h1, h2⟩ := falses_inj h
    exact ⟨by omega, h2⟩
theorem falses_none : ∀ {k m : Nat} {a : List Bool}, List.replicate k false ≠ List.replicate m false ++ true :: a
  | 0, 0, a, h => by simp at h
  | 0, m + 1, a, h => by simp [List.replicate_succ] at h
  | k + 1, 0, a, h => by simp [List.replicate_succ] at h
  | k + 1, m + 1, a, h => by
    simp only [List.replicate_succ, List.cons_append, List.cons.injEq, true_and] at h
    exact falses_none h
theorem falses_more : ∀ {k m : Nat} {a b : List Bool}, List.replicate k false ++ b = List.replicate m false ++ true :: a → k ≤ m
  | 0, _, _, _, _ => by omega
  | k + 1, 0, a, b, h => by simp [List.replicate_succ] at h
  | k + 1, m + 1, a, b, h => by
    simp only [List.replicate_succ, List.cons_append, List.cons.injEq, true_and] at h
    have := falses_more h
    omega
abbrev NumOk (x : Nat) : Prop := x < 2 ^ 64
/-- It stopped. -/
theorem num_stop {s s' : Rd} {x : Nat} (hb : s'.bad ≠ 0) (h : s.bad = 0 → ∀ y t, NumOk y → s.rest ≠ numL y ++ t) : RdOK numL NumOk s s' x :=
  ⟨fun h0 y t hy e => absurd e (h h0 y t hy), fun h0 => absurd h0 hb⟩
theorem num_short {k : Nat} {s : Rd} (h : s.rest = List.replicate k false) (y : Nat) (t : List Bool) (hy : NumOk y) : s.rest ≠ numL y ++ t := by
  obtain ⟨m, tl, _, _, _, _, e⟩ := numL_form hy
  rw [h, e, List.append_assoc]; exact falses_none
theorem num_form {s : Rd} {b : List Bool} (h : s.rest = List.replicate 65 false ++ b) (y : Nat) (t : List Bool) (hy : NumOk y) : s.rest ≠ numL y ++ t := by
  obtain ⟨m, tl, _, hm, _, _, e⟩ := numL_form hy
  rw [h, e, List.append_assoc]; intro e2
  have := falses_more e2
  omega
/-- Too few bits behind the one, or, behind 64 noughts, others than noughts. -/
theorem num_cut {k : Nat} {s : Rd} {r : List Bool} (h : s.rest = List.replicate k false ++ true :: r) (hc : r.length < k ∨ (k = 64 ∧ valL (r.take 64) ≠ 0)) (y : Nat) (t : List Bool) (hy : NumOk y) : s.rest ≠ numL y ++ t := by
  obtain ⟨m, tl, hl, hm, _, hv, e⟩ := numL_form hy
  rw [h, e, List.append_assoc]; intro e2
  obtain ⟨rfl, e3⟩ := falses_inj (b := tl ++ t) e2
  rcases hc with hc | ⟨rfl, hc⟩
  · rw [e3] at hc; simp at hc; omega
  · rw [e3, ← hl, List.take_left] at hc
    omega
/-- A number. -/
theorem num_read {k : Nat} {s : Rd} {r : List Bool} (h0 : s.bad = 0) (h : s.rest = List.replicate k false ++ true :: r) (hk : k ≤ 64) (hr : k ≤ r.length) (hv : 2 ^ k + valL (r.take k) ≤ 2 ^ 64) {x : Nat} (hx : x = 2 ^ k + valL (r.take k) - 1) : RdOK numL NumOk s ⟨r.drop k, 0⟩ x := by
  have hl : (r.take k).length = k := by rw [List.length_take]; omega
  have e := numL_of hl hk hv
  rw [← hx] at e
  have hpos := Nat.two_pow_pos k
  have hxo : NumOk x := by unfold NumOk; omega
  refine ⟨fun _ y t hy e2 => ?_, fun _ => ⟨h0, hxo, ?_⟩⟩
  · obtain ⟨m, tl, hl2, hm, hy2, hv2, e3⟩ := numL_form hy
    rw [h, e3, List.append_assoc] at e2
    obtain ⟨rfl, e4⟩ := falses_inj (b := tl ++ t) e2
    refine ⟨?_, ?_, rfl⟩
    · rw [hx, hy2, e4, ← hl2, List.take_left]
    · show r.drop k = t
      rw [e4, ← hl2, List.drop_left]
  · rw [e, h, List.append_assoc]
    show _ = List.replicate k false ++ true :: (r.take k ++ r.drop k)
    rw [List.take_append_drop]
end Go.Proofs.Ytdkkpkgfiodlbaa

/- (*bits.Reader).Num. -/
namespace Go.Proofs.Ytdkkpkgfiodlbaa
open Go.RowKit

theorem RdrS.badCell {base p : Nat} {s : Rd} {W : World} (h : RdrS base p s W) : W.cell? ⟨p, 2, none⟩ = some (vi s.bad) := by
  obtain ⟨_, v, bs, at', h1, _⟩ := h
  rw [Bt.cell_of h1]; rfl
def Get1Q (base p : Nat) (s : Rd) (n x : Nat) (s' : Rd) (w : World) (e : Ending) (w' : World) : Prop := e = .returned (.int .u64 (x : Nat)) ∧ RdrS base p s' w' ∧ w.grownBy w' (some p)
theorem get_as {base p : Nat} {s : Rd} (n x : Nat) (s' : Rd) (w : World) (h : RdrS base p s w) (hn : n ≤ 64) (he : getS s n = (x, s')) (i : Int) (hi : i = n) :
    Calls Try.prog 80 #[.pointer (some ⟨p, 0, none⟩), .int .i64 i] w (Get1Q base p s n x s' w) := by
  subst hi
  refine (get_call n w h hn).mono ?_
  rintro e w' ⟨h1, h2, h3⟩
  rw [he] at h1 h2
  exact ⟨h1, h2, h3⟩
def NumRQ (base p : Nat) (s : Rd) (w : World) (e : Ending) (w' : World) : Prop := ∃ x s', e = .returned (.int .u64 (x : Nat)) ∧ x < 2 ^ 64 ∧ RdOK numL NumOk s s' x ∧ RdrS base p s' w' ∧ w.grownBy w' (some p)
theorem shl_or {k v : Nat} (hk : k < 64) (hv : v < 2 ^ k) : bits .or .u64 ((2 ^ k : Nat) : Int) (v : Int) = ((2 ^ k + v : Nat) : Int) := by
  have h1 : (2 : Nat) ^ k < 2 ^ 64 := Nat.pow_lt_pow_right (by decide) hk
  rw [u64_or_nat _ _ (by omega) (by omega)]
  have h3 := Nat.two_pow_add_eq_or_of_lt hv 1
  rw [Nat.mul_one] at h3
  rw [h3]
theorem num_val {k X : Nat} (hk : k < 64) (hX : X < 2 ^ k) : IntKind.u64.wrap (bits .or .u64 (IntKind.u64.wrap (2 ^ k)) (X : Int) - 1) = ((2 ^ k + X - 1 : Nat) : Int) := by
  have h1 : (2 : Nat) ^ k ≤ 2 ^ 63 := Nat.pow_le_pow_right (by decide) (by omega)
  have h2 := Nat.two_pow_pos k
  have e : ((2 : Int) ^ k) = ((2 ^ k : Nat) : Int) := by simp
  have e2 : IntKind.u64.wrap ((2 ^ k : Nat) : Int) = ((2 ^ k : Nat) : Int) := by rw [IntKind.wrap_u64]; omega
  rw [e, e2, shl_or hk hX, IntKind.wrap_u64]
  omega
set_option maxHeartbeats 4000000 in
set_option maxRecDepth 100000 in
theorem numR_call {base p : Nat} {s : Rd} (w : World) (h : RdrS base p s w) :
    Calls Try.prog 55 #[.pointer (some ⟨p, 0, none⟩)] w (NumRQ base p s w) := by
  have HW := Lib.hid h
  clear h
  go_enter Try.func55, Try.ntmps55
  go_wp2_with fail
  go_loopw [3] (fun n wr => ∃ k : Nat, k ≤ 64 ∧ n = vi k ∧ Hid (∃ r, (s.bad = 0 ∨ k = 0) ∧ s.rest = List.replicate k false ++ r ∧ RdrS base p ⟨r, s.bad⟩ wr ∧ w.grownBy wr (some p))) (fun n _ => 64 - (intOf n).toNat)
  case atStart => exact ⟨0, by omega, rfl, Lib.hid ⟨s.rest, .inr rfl, rfl, HW.out, gro_refl _ _⟩⟩
  case round =>
    obtain ⟨wj, rfl⟩ : ∃ wj : World, wj = wr := ⟨_, rfl⟩
    obtain ⟨k, hk, rfl, HJ⟩ := hrel
    obtain ⟨r, hor, hre, hS, hG⟩ := HJ.out
    have HRE := Lib.hid hre
    have HS := Lib.hid hS
    have HG := Lib.hid hG
    clear HJ hre hS hG
    by_cases hb : s.bad = 0
    · have HB := Lib.hid hb
      clear hb hor
      cases r with
      | nil =>
        have HGE : Hid (getS ⟨[], s.bad⟩ 1 = (0, ⟨[], 10⟩)) := by rw [getS_short (s := ⟨[], s.bad⟩) HB.out (by simp)]; exact Lib.hid rfl
        go_wp2_with (go_at_call 80; refine (get_as 1 0 ⟨[], 10⟩ wj HS.out (by decide) HGE.out 1 rfl).mono ?_; rintro e1 w1 ⟨rfl, hs1, hg1⟩; have hc1 := hs1.badCell; have HS1 := Lib.hid hs1; have HG1 := Lib.hid hg1; clear hs1 hg1)
        go_ret
        refine ⟨0, ⟨[], 10⟩, rfl, by decide, num_stop (by simp) (fun _ => num_short (k := k) (by rw [HRE.out]; simp)), HS1.out, gro_trans HG.out HG1.out⟩
      | cons b r =>
        cases b with
        | false =>
          have HGE : Hid (getS ⟨false :: r, s.bad⟩ 1 = (0, ⟨r, 0⟩)) := by rw [getS_ok (s := ⟨false :: r, s.bad⟩) HB.out (by simp)]; exact Lib.hid rfl
          have hw1 : IntKind.i64.wrap ((k : Int) + 1) = (k : Int) + 1 := IntWalk.i64_in _ (by omega)
          by_cases hk2 : k = 64
          · have hk3 : decide ((64 : Int) < k + 1) = true := by simp; omega
            have HK := Lib.hid hk2
            clear hk2
            go_wp2_with (first
              | (go_at_call 83; refine (fail_call 11 w1 HS1.out).mono ?_; rintro e2 w2 ⟨rfl, hs2, hg2⟩; have HS2 := Lib.hid hs2; have HG2 := Lib.hid hg2; clear hs2 hg2)
              | (go_at_call 80; refine (get_as 1 0 ⟨r, 0⟩ wj HS.out (by decide) HGE.out 1 rfl).mono ?_; rintro e1 w1 ⟨rfl, hs1, hg1⟩; have hc1 := hs1.badCell; have HS1 := Lib.hid hs1; have HG1 := Lib.hid hg1; clear hs1 hg1))
            go_ret
            refine ⟨0, ⟨r, 11⟩, rfl, by decide, num_stop (by simp) (fun _ => num_form (b := r) (by rw [HRE.out, HK.out]; rfl)), HS2.out, gro_trans (gro_trans HG.out HG1.out) HG2.out⟩
          · have hk3 : decide ((64 : Int) < k + 1) = false := by simp; omega
            have hk4 : k + 1 ≤ 64 := by omega
            clear hk2
            go_wp2_with (first
              | (go_at_call 80; refine (get_as 1 0 ⟨r, 0⟩ wj HS.out (by decide) HGE.out 1 rfl).mono ?_; rintro e1 w1 ⟨rfl, hs1, hg1⟩; have hc1 := hs1.badCell; have HS1 := Lib.hid hs1; have HG1 := Lib.hid hg1; clear hs1 hg1))
            refine ⟨⟨k + 1, hk4, by go_num, Lib.hid ⟨r, .inl HB.out, ?_, ?_, gro_trans HG.out HG1.out⟩⟩, by simp only [intOf]; omega⟩
            · rw [HRE.out, List.replicate_succ', List.append_assoc]; rfl
            · rw [HB.out]; exact HS1.out
        | true =>
          have HGE : Hid (getS ⟨true :: r, s.bad⟩ 1 = (1, ⟨r, 0⟩)) := by rw [getS_ok (s := ⟨true :: r, s.bad⟩) HB.out (by simp)]; exact Lib.hid rfl
          by_cases hk2 : k = 64
          · have HK := Lib.hid hk2
            have hk3 : ((k : Int) == 64) = true := by simp; omega
            clear hk2
            by_cases hl : r.length < 64
            · have HG2E : Hid (getS ⟨r, 0⟩ 64 = (0, ⟨r, 10⟩)) := by rw [getS_short (s := ⟨r, 0⟩) rfl hl]; exact Lib.hid rfl
              go_wp2_with (first
                | (go_at_call 80; refine (get_as 64 0 ⟨r, 10⟩ w1 HS1.out (by omega) HG2E.out 64 rfl).mono ?_; rintro e2 w2 ⟨rfl, hs2, hg2⟩; have hc2 := hs2.badCell; have HS2 := Lib.hid hs2; have HG2 := Lib.hid hg2; clear hs2 hg2)
                | (go_at_call 80; refine (get_as 1 1 ⟨r, 0⟩ wj HS.out (by decide) HGE.out 1 rfl).mono ?_; rintro e1 w1 ⟨rfl, hs1, hg1⟩; have hc1 := hs1.badCell; have HS1 := Lib.hid hs1; have HG1 := Lib.hid hg1; clear hs1 hg1))
              go_ret
              exact ⟨0, ⟨r, 10⟩, rfl, by decide, num_stop (by simp) (fun _ => num_cut (k := k) (r := r) HRE.out (.inl (by rw [HK.out]; exact hl))), HS2.out, gro_trans (gro_trans HG.out HG1.out) HG2.out⟩
            · have hlr : 64 ≤ r.length := by omega
              obtain ⟨X, hX⟩ : ∃ X, X = valL (r.take 64) := ⟨_, rfl⟩
              have HG2E : Hid (getS ⟨r, 0⟩ 64 = (X, ⟨r.drop 64, 0⟩)) := by rw [getS_ok (s := ⟨r, 0⟩) rfl hlr, hX]; exact Lib.hid rfl
              have HX := Lib.hid hX
              clear hX
              by_cases hx0 : X = 0
              · have hx1 : ((X : Int) != 0) = false := by simp [hx0]
                have HX0 := Lib.hid hx0
                clear hx0
                go_wp2_with (first
                  | (go_at_call 80; refine (get_as 64 X ⟨r.drop 64, 0⟩ w1 HS1.out (by omega) HG2E.out 64 rfl).mono ?_; rintro e2 w2 ⟨rfl, hs2, hg2⟩; have hc2 := hs2.badCell; have HS2 := Lib.hid hs2; have HG2 := Lib.hid hg2; clear hs2 hg2)
                  | (go_at_call 80; refine (get_as 1 1 ⟨r, 0⟩ wj HS.out (by decide) HGE.out 1 rfl).mono ?_; rintro e1 w1 ⟨rfl, hs1, hg1⟩; have hc1 := hs1.badCell; have HS1 := Lib.hid hs1; have HG1 := Lib.hid hg1; clear hs1 hg1))
                go_ret
                refine ⟨2 ^ 64 - 1, ⟨r.drop 64, 0⟩, rfl, by decide, ?_, HS2.out, gro_trans (gro_trans HG.out HG1.out) HG2.out⟩
                have hv0 : valL (r.take 64) = 0 := HX.out.symm.trans HX0.out
                refine num_read (k := 64) HB.out (by have := HRE.out; rw [HK.out] at this; exact this) (Nat.le_refl _) hlr (by rw [hv0]; decide) (by rw [hv0])
              · have hx1 : ((X : Int) != 0) = true := by simp; exact hx0
                go_wp2_with (first
                  | (go_at_call 83; refine (fail_call 11 w2 HS2.out).mono ?_; rintro e3 w3 ⟨rfl, hs3, hg3⟩; have HS3 := Lib.hid hs3; have HG3 := Lib.hid hg3; clear hs3 hg3)
                  | (go_at_call 80; refine (get_as 64 X ⟨r.drop 64, 0⟩ w1 HS1.out (by omega) HG2E.out 64 rfl).mono ?_; rintro e2 w2 ⟨rfl, hs2, hg2⟩; have hc2 := hs2.badCell; have HS2 := Lib.hid hs2; have HG2 := Lib.hid hg2; clear hs2 hg2)
                  | (go_at_call 80; refine (get_as 1 1 ⟨r, 0⟩ wj HS.out (by decide) HGE.out 1 rfl).mono ?_; rintro e1 w1 ⟨rfl, hs1, hg1⟩; have hc1 := hs1.badCell; have HS1 := Lib.hid hs1; have HG1 := Lib.hid hg1; clear hs1 hg1))
                go_ret
                exact ⟨0, ⟨r.drop 64, 11⟩, rfl, by decide, num_stop (by simp) (fun _ => num_cut (k := k) (r := r) HRE.out (.inr ⟨HK.out, by rw [← HX.out]; exact hx0⟩)), HS3.out, gro_trans (gro_trans (gro_trans HG.out HG1.out) HG2.out) HG3.out⟩
          · have hk3 : ((k : Int) == 64) = false := by simp; omega
            have hk4 : k < 64 := by omega
            clear hk2
            by_cases hl : r.length < k
            · have HG2E : Hid (getS ⟨r, 0⟩ k = (0, ⟨r, 10⟩)) := by rw [getS_short (s := ⟨r, 0⟩) rfl hl]; exact Lib.hid rfl
              go_wp2_with (first
                | (go_at_call 80; refine (get_as k 0 ⟨r, 10⟩ w1 HS1.out (by omega) HG2E.out k rfl).mono ?_; rintro e2 w2 ⟨rfl, hs2, hg2⟩; have hc2 := hs2.badCell; have HS2 := Lib.hid hs2; have HG2 := Lib.hid hg2; clear hs2 hg2)
                | (go_at_call 80; refine (get_as 1 1 ⟨r, 0⟩ wj HS.out (by decide) HGE.out 1 rfl).mono ?_; rintro e1 w1 ⟨rfl, hs1, hg1⟩; have hc1 := hs1.badCell; have HS1 := Lib.hid hs1; have HG1 := Lib.hid hg1; clear hs1 hg1))
              go_ret
              exact ⟨0, ⟨r, 10⟩, rfl, by decide, num_stop (by simp) (fun _ => num_cut (k := k) (r := r) HRE.out (.inl hl)), HS2.out, gro_trans (gro_trans HG.out HG1.out) HG2.out⟩
            · have HG2E : Hid (getS ⟨r, 0⟩ k = (valL (r.take k), ⟨r.drop k, 0⟩)) := by rw [getS_ok (s := ⟨r, 0⟩) rfl (by simp; omega)]; exact Lib.hid rfl
              have hvl := valL_lt (r.take k)
              have HVL : valL (r.take k) < 2 ^ k := Nat.lt_of_lt_of_le hvl (Nat.pow_le_pow_right (by decide) (by rw [List.length_take]; omega))
              have hpk : 2 ^ k ≤ 2 ^ 63 := Nat.pow_le_pow_right (by decide) (by omega)
              have hpp := Nat.two_pow_pos k
              obtain ⟨X, hX⟩ : ∃ X, X = valL (r.take k) := ⟨_, rfl⟩
              rw [← hX] at HVL HG2E
              have hso := Lib.hid (num_val hk4 HVL)
              have hlr : k ≤ r.length := by omega
              have HX := Lib.hid hX
              clear hX hvl
              go_wp2_with (first
                | (go_at_call 80; refine (get_as k X ⟨r.drop k, 0⟩ w1 HS1.out (by omega) HG2E.out k rfl).mono ?_; rintro e2 w2 ⟨rfl, hs2, hg2⟩; have hc2 := hs2.badCell; have HS2 := Lib.hid hs2; have HG2 := Lib.hid hg2; clear hs2 hg2)
                | (go_at_call 80; refine (get_as 1 1 ⟨r, 0⟩ wj HS.out (by decide) HGE.out 1 rfl).mono ?_; rintro e1 w1 ⟨rfl, hs1, hg1⟩; have hc1 := hs1.badCell; have HS1 := Lib.hid hs1; have HG1 := Lib.hid hg1; clear hs1 hg1))
              go_ret
              refine ⟨2 ^ k + X - 1, ⟨r.drop k, 0⟩, congrArg Ending.returned (congrArg (Value.int IntKind.u64) hso.out), by omega, num_read HB.out HRE.out hk hlr (by rw [← HX.out]; omega) (by rw [← HX.out]), HS2.out, gro_trans (gro_trans HG.out HG1.out) HG2.out⟩
    · have HB := Lib.hid hb
      have hk0 : k = 0 := by rcases hor with h | h; exact absurd h hb; exact h
      have hbb : (s.bad != 0) = true := by simp [hb]
      clear hb hor hk0
      have HGE : Hid (getS ⟨r, s.bad⟩ 1 = (0, ⟨r, s.bad⟩)) := by rw [getS_bad (s := ⟨r, s.bad⟩) HB.out]; exact Lib.hid rfl
      go_wp2_with (go_at_call 80; refine (get_as 1 0 ⟨r, s.bad⟩ wj HS.out (by decide) HGE.out 1 rfl).mono ?_; rintro e1 w1 ⟨rfl, hs1, hg1⟩; have hc1 := hs1.badCell; have HS1 := Lib.hid hs1; have HG1 := Lib.hid hg1; clear hs1 hg1)
      go_ret
      refine ⟨0, ⟨r, s.bad⟩, rfl, by decide, num_stop HB.out (fun h => absurd h HB.out), HS1.out, gro_trans HG.out HG1.out⟩
end Go.Proofs.Ytdkkpkgfiodlbaa

/- (*bits.Reader).Int, Err, End; bits.Read. -/
namespace Go.Proofs.Ytdkkpkgfiodlbaa
open Go.RowKit

def zag (x : Nat) : Int := if x % 2 = 1 then -((x / 2 : Nat) : Int) - 1 else ((x / 2 : Nat) : Int)
theorem zag_zig (z : Int) : zag (zig z) = z := by unfold zag zig; split <;> split <;> omega
theorem zig_zag (x : Nat) : zig (zag x) = x := by unfold zag zig; split <;> split <;> omega
abbrev IntOk (z : Int) : Prop := -9223372036854775808 ≤ z ∧ z ≤ 9223372036854775807
theorem zag_ok {x : Nat} (h : x < 2 ^ 64) : IntOk (zag x) := by unfold zag IntOk; split <;> omega
theorem int_read {s s' : Rd} {x : Nat} (h : RdOK numL NumOk s s' x) : RdOK intL IntOk s s' (zag x) := by
  refine ⟨fun h0 y t hy e => ?_, fun h0 => ?_⟩
  · obtain ⟨a, b, c⟩ := h.1 h0 (zig y) t (by have := zig_lt hy.1 hy.2; unfold NumOk; omega) e
    exact ⟨by rw [a, zag_zig], b, c⟩
  · obtain ⟨a, b, c⟩ := h.2 h0
    exact ⟨a, zag_ok b, by rw [c]; unfold intL; rw [zig_zag]⟩
theorem i64_xor_all (a : Nat) (h : a < 9223372036854775808) : bits .xor .i64 (a : Int) (-1) = -(a : Int) - 1 := by
  have h1 : BitVec.ofInt 64 (-1) = BitVec.allOnes 64 := by decide
  have h2 : BitVec.ofInt 64 (a : Int) = BitVec.ofNat 64 a := by simp
  show IntKind.i64.wrap (((BitVec.ofInt 64 (a : Int)) ^^^ (BitVec.ofInt 64 (-1))).toNat : Int) = _
  rw [h1, h2, BitVec.xor_allOnes, BitVec.toNat_not, BitVec.toNat_ofNat, Nat.mod_eq_of_lt (by omega), IntKind.wrap_i64]
  omega
theorem i64_xor_none (a : Nat) (h : a < 9223372036854775808) : bits .xor .i64 (a : Int) 0 = (a : Int) := by
  have h1 : BitVec.ofInt 64 0 = 0#64 := by decide
  have h2 : BitVec.ofInt 64 (a : Int) = BitVec.ofNat 64 a := by simp
  show IntKind.i64.wrap (((BitVec.ofInt 64 (a : Int)) ^^^ (BitVec.ofInt 64 0)).toNat : Int) = _
  rw [h1, h2, BitVec.xor_zero, BitVec.toNat_ofNat, Nat.mod_eq_of_lt (by omega), IntKind.wrap_i64]
  omega
theorem zag_bits (x : Nat) (h : x < 2 ^ 64) : bits .xor .i64 ((x : Int) / 2) (wrap64 (-wrap64 (bits .and .u64 (x : Int) 1))) = zag x := by
  have e2 : bits .and .u64 (x : Int) 1 = ((x % 2 : Nat) : Int) := by
    have := u64_and_nat x 1 (by omega) (by decide)
    rw [nat_mask1] at this; exact this
  have e1 : (x : Int) / 2 = ((x / 2 : Nat) : Int) := by omega
  rw [e1, e2, IntWalk.wrap64_in ((x % 2 : Nat) : Int) ⟨by omega, by omega⟩, IntWalk.wrap64_in (-((x % 2 : Nat) : Int)) ⟨by omega, by omega⟩]
  unfold zag
  by_cases hx : x % 2 = 1
  · rw [if_pos hx, hx]; exact i64_xor_all _ (by omega)
  · rw [if_neg hx, show x % 2 = 0 by omega]; exact i64_xor_none _ (by omega)
def IntRQ (base p : Nat) (s : Rd) (w : World) (e : Ending) (w' : World) : Prop := ∃ z s', e = .returned (vi z) ∧ IntOk z ∧ RdOK intL IntOk s s' z ∧ RdrS base p s' w' ∧ w.grownBy w' (some p)
set_option maxHeartbeats 4000000 in
set_option maxRecDepth 100000 in
theorem intR_call {base p : Nat} {s : Rd} (w : World) (h : RdrS base p s w) :
    Calls Try.prog 50 #[.pointer (some ⟨p, 0, none⟩)] w (IntRQ base p s w) := by
  have HW := Lib.hid h
  clear h
  go_enter Try.func50, Try.ntmps50
  go_wp2_with (go_at_call 55; refine (numR_call w HW.out).mono ?_; rintro e1 w1 ⟨x, s1, rfl, hx, hr, hs1, hg1⟩; have HR := Lib.hid hr; have HS1 := Lib.hid hs1; have HG1 := Lib.hid hg1; clear hr hs1 hg1)
  go_ret
  exact ⟨zag x, s1, congrArg Ending.returned (congrArg (Value.int IntKind.i64) (zag_bits x hx)), zag_ok hx, int_read HR.out, HS1.out, HG1.out⟩

set_option maxRecDepth 100000 in
theorem err_call {base p : Nat} {s : Rd} (w : World) (h : RdrS base p s w) :
    Calls Try.prog 56 #[.pointer (some ⟨p, 0, none⟩)] w fun e w' => e = .returned (vi s.bad) ∧ w = w' := by
  have c2 := h.badCell
  clear h
  go_enter Try.func56, Try.ntmps56
  go_wp2_with fail
  go_ret
  exact ⟨rfl, rfl⟩

/-- Nothing is left but noughts up to the end of a byte. -/
def atEnd (s : Rd) : Prop := s.bad = 0 ∧ s.rest.length ≤ 7 ∧ valL s.rest = 0
def EndQ (s : Rd) (w : World) (e : Ending) (w' : World) : Prop := ∃ x : Int, e = .returned (vi x) ∧ (x = 0 ↔ atEnd s) ∧ (s.bad = 0 → x = 0 ∨ x = 12) ∧ (s.bad ≠ 0 → x = s.bad) ∧ ∃ n, w' = w.drewN n
theorem bitsOf_snoc : ∀ (bs : List Nat) (b : Nat), bitsOf (bs ++ [b]) = bitsOf bs ++ putL b 8
  | [], b => by simp [bitsOf]
  | c :: bs, b => by rw [List.cons_append, bitsOf, bitsOf_snoc bs b, bitsOf, List.append_assoc]
theorem putL_drop (x : Nat) : ∀ n k, k ≤ n → (putL x n).drop (n - k) = putL x k
  | 0, k, h => by rw [show k = 0 by omega]; rfl
  | n + 1, k, h => by
    by_cases hk : k = n + 1
    · subst hk; simp
    · rw [show n + 1 - k = (n - k) + 1 by omega, putL, List.drop_succ_cons, putL_drop x n k (by omega)]
theorem last_bits {bs : List Nat} {b at' n : Nat} (h : bs[bs.length - 1]? = some b) (h2 : 8 * bs.length - at' = n) (hn : n ≤ 7) (hn0 : 0 < n) : (bitsOf bs).drop at' = putL b n := by
  have hl : bs.length - 1 < bs.length := (List.getElem?_eq_some_iff.1 h).1
  obtain ⟨cs, hcs⟩ : ∃ cs, bs = cs ++ [b] := ⟨bs.take (bs.length - 1), by
    have := List.take_append_getElem (l := bs) (i := bs.length - 1) hl
    rw [List.getElem?_eq_getElem hl] at h
    rw [Option.some.inj h] at this
    rw [this, show bs.length - 1 + 1 = bs.length by omega, List.take_length]⟩
  subst hcs
  simp only [List.length_append, List.length_cons, List.length_nil] at h2 hl
  rw [bitsOf_snoc, List.drop_append, List.drop_of_length_le (by rw [bitsOf_length]; omega), bitsOf_length, List.nil_append, show at' - 8 * cs.length = 8 - n by omega]
  exact putL_drop b 8 n (by omega)
end Go.Proofs.Ytdkkpkgfiodlbaa

/- (mvcc.Ready).Bits. -/
namespace Go.Proofs.Ytdkkpkgfiodlbaa
open Go.RowKit

def opL (o : GOp) : List Bool := intL o.key ++ intL o.val
def opsBL (ws : List GOp) : List Bool := ws.flatMap opL
def intsBL (rs : List Int) : List Bool := rs.flatMap intL
/-- A transaction that waits, in bits. -/
def rdyBL (r : Rdy) : List Bool := intL r.txn ++ intL r.home ++ intL r.start ++ numL r.writes.length ++ opsBL r.writes ++ numL r.reads.length ++ intsBL r.reads
theorem intL_length {z : Int} (h : IntOk z) : (intL z).length ≤ 129 := numL_length _ (zig_lt h.1 h.2)
theorem opsBL_length : ∀ ws : List GOp, (∀ o ∈ ws, IntOk o.key ∧ IntOk o.val) → (opsBL ws).length ≤ 258 * ws.length
  | [], _ => by simp [opsBL]
  | o :: ws, h => by
    have h1 := h o (by simp)
    have := opsBL_length ws (fun x hx => h x (by simp [hx]))
    have a := intL_length h1.1
    have b := intL_length h1.2
    simp only [opsBL, List.flatMap_cons, List.length_append, opL, List.length_cons] at *
    omega
theorem intsBL_length : ∀ rs : List Int, (∀ o ∈ rs, IntOk o) → (intsBL rs).length ≤ 129 * rs.length
  | [], _ => by simp [intsBL]
  | o :: ws, h => by
    have h1 := h o (by simp)
    have := intsBL_length ws (fun x hx => h x (by simp [hx]))
    have a := intL_length h1
    simp only [intsBL, List.flatMap_cons, List.length_append, List.length_cons] at *
    omega
theorem opsBL_snoc {ws : List GOp} {k : Nat} {o : GOp} (h : ws[k]? = some o) : opsBL (ws.take (k + 1)) = opsBL (ws.take k) ++ (intL o.key ++ intL o.val) := by
  rw [take_at h]; simp [opsBL, opL]
theorem intsBL_snoc {ws : List Int} {k : Nat} {o : Int} (h : ws[k]? = some o) : intsBL (ws.take (k + 1)) = intsBL (ws.take k) ++ intL o := by
  rw [take_at h]; simp [intsBL]
/-- What the numbers of a transaction are within. -/
structure RdyOk (r : Rdy) : Prop where
  txn : IntOk r.txn
  home : IntOk r.home
  start : IntOk r.start
  ws : ∀ o ∈ r.writes, IntOk o.key ∧ IntOk o.val
  rs : ∀ k ∈ r.reads, IntOk k
theorem FrW.alloc {base p : Nat} {a b : World} (h : FrW base p a b) (o : Obj) : FrW base p a (b.alloc o) := h.trans (FrW.below ((Below.refl _ _).alloc (Nat.le_refl _) o))
theorem WrS.alloc {base p : Nat} {L : List Bool} {A : World} (h : WrS base p L A) (o : Obj) : WrS base p L (A.alloc o) := h.later ((Below.refl _ _).alloc (Nat.le_refl _) o)

set_option maxRecDepth 100000 in
set_option maxHeartbeats 8000000 in
theorem rdyBits_call {base p : Nat} {L : List Bool} (x : RV) (w : World) (hw : WrS base p L w) (hb : base ≤ w.heap.size) (hx : ∀ W, Below base w W → RdyS W x) (hi : RdyOk x.r) (hlw : x.r.writes.length ≤ 1000) (hlr : x.r.reads.length ≤ 1000) (hL : L.length ≤ 500000) :
    Calls Try.prog 34 #[rdyV x, .pointer (some ⟨p, 0, none⟩)] w (PutQ base p (L ++ rdyBL x.r) w) := by
  obtain ⟨wv, rv, r⟩ := x
  have hx0 := hx w (Below.refl _ _)
  obtain ⟨aw, nw, cw, hwv, rfl, hmw, -⟩ := (show RdOps w wv r.writes from hx0.ws).at
  obtain ⟨ar, nr, cr, hrv, rfl, hmr, -⟩ := (show RdInts w rv r.reads from hx0.rs).at
  subst hwv hrv
  clear hx0
  have HX := Lib.hid (Bt.alloc_at w (.cells (rdyC ⟨.slice aw r.writes.length cw, .slice ar r.reads.length cr, r⟩) 29))
  have HW := Lib.hid (hw.alloc (.cells (rdyC ⟨.slice aw r.writes.length cw, .slice ar r.reads.length cr, r⟩) 29))
  have HF := Lib.hid ((FrW.refl base p w).alloc (.cells (rdyC ⟨.slice aw r.writes.length cw, .slice ar r.reads.length cr, r⟩) 29))
  have hne := hw.lt
  have HRD := Lib.hid hx
  have HI := Lib.hid hi
  have hl1 := intL_length hi.txn
  have hl2 := intL_length hi.home
  have hl3 := intL_length hi.start
  have hl4 := numL_length r.writes.length (by omega)
  have hl5 := numL_length r.reads.length (by omega)
  have hl6 := opsBL_length r.writes hi.ws
  have hl7 := intsBL_length r.reads hi.rs
  simp only at hlw hlr
  have hlen := Lib.hid (show (rdyBL r).length = (intL r.txn).length + (intL r.home).length + (intL r.start).length + (numL r.writes.length).length + (opsBL r.writes).length + (numL r.reads.length).length + (intsBL r.reads).length by simp [rdyBL]; omega)
  have hba : base ≤ (w.alloc (.cells (rdyC ⟨.slice aw r.writes.length cw, .slice ar r.reads.length cr, r⟩) 29)).heap.size := by simp; omega
  clear hx hi
  unfold rdyV at *
  unfold rdyC at *
  simp only at HX HW HF hba
  go_enter Try.func34, Try.ntmps34
  go_upto_region 1 with fail
  generalize w.alloc (.cells #[vi r.txn, vi r.home, vi r.start, .slice aw r.writes.length cw, .slice ar r.reads.length cr] 29) = w1 at *
  obtain ⟨X, hX⟩ : ∃ X, X = w.heap.size := ⟨_, rfl⟩
  rw [← hX] at HX hne ⊢
  have hnX : X ≠ p := by omega
  have hbX : base ≤ X := by omega
  have HXE := Lib.hid hX
  clear hX hb hw
  have x0 : w1.cell? ⟨X, 0, none⟩ = some (vi r.txn) := by rw [Bt.cell_of HX.out]; rfl
  go_upto_region 2 with (go_at_call 33; refine (int_call (L := L) r.txn w1 HW.out HI.out.txn.1 HI.out.txn.2 (by omega) hba).mono ?_; rintro e2 w2 ⟨rfl, hw2, hf2⟩; have HW2 := Lib.hid hw2; have HF2 := Lib.hid hf2; have hz2 := Nat.le_trans hba hf2.size; have x1 : w2.cell? ⟨X, 1, none⟩ = some (vi r.home) := (by rw [Bt.cell_of (hf2.cells HX.out hnX (by decide))]; rfl); have HX2 := Lib.hid (hf2.cells HX.out hnX (by decide)); clear hw2 hf2)
  go_upto_region 3 with (go_at_call 33; refine (int_call (L := L ++ intL r.txn) r.home w2 HW2.out HI.out.home.1 HI.out.home.2 (by simp; omega) hz2).mono ?_; rintro e3 w3 ⟨rfl, hw3, hf3⟩; have HW3 := Lib.hid hw3; have HF3 := Lib.hid hf3; have hz3 := Nat.le_trans hz2 hf3.size; have x2 : w3.cell? ⟨X, 2, none⟩ = some (vi r.start) := (by rw [Bt.cell_of (hf3.cells HX2.out hnX (by decide))]; rfl); have HX3 := Lib.hid (hf3.cells HX2.out hnX (by decide)); clear hw3 hf3)
  go_upto_region 4 with (go_at_call 33; refine (int_call (L := L ++ intL r.txn ++ intL r.home) r.start w3 HW3.out HI.out.start.1 HI.out.start.2 (by simp; omega) hz3).mono ?_; rintro e4 w4 ⟨rfl, hw4, hf4⟩; have HW4 := Lib.hid hw4; have HF4 := Lib.hid hf4; have hz4 := Nat.le_trans hz3 hf4.size; have x3 : w4.cell? ⟨X, 3, none⟩ = some (.slice aw r.writes.length cw) := (by rw [Bt.cell_of (hf4.cells HX3.out hnX (by decide))]; rfl); have HX4 := Lib.hid (hf4.cells HX3.out hnX (by decide)); clear hw4 hf4)
  have hwr1 : IntKind.u64.wrap (r.writes.length : Int) = (r.writes.length : Int) := by rw [IntKind.wrap_u64]; omega
  go_upto_region 5 with (go_at_call 54; refine (num_call (L := L ++ intL r.txn ++ intL r.home ++ intL r.start) r.writes.length w4 HW4.out (by omega) (by simp; omega) hz4).mono ?_; rintro e5 w5 ⟨rfl, hw5, hf5⟩; have HW5 := Lib.hid hw5; have HF5 := Lib.hid hf5; have hz5 := Nat.le_trans hz4 hf5.size; have x3' : w5.cell? ⟨X, 3, none⟩ = some (.slice aw r.writes.length cw) := (by rw [Bt.cell_of (hf5.cells HX4.out hnX (by decide))]; rfl); have HX5 := Lib.hid (hf5.cells HX4.out hnX (by decide)); clear hw5 hf5)
  have HFA := Lib.hid ((((HF.out.trans HF2.out).trans HF3.out).trans HF4.out).trans HF5.out)
  have HW5' := HW5
  clear x0 x1 x2 x3 HW HW2 HW3 HW4 HF HF2 HF3 HF4 HF5 HX HX2 HX3 HX4 hba hz2 hz3 hz4 hwr1
  obtain ⟨L5, hL5⟩ : ∃ L5, L5 = L ++ intL r.txn ++ intL r.home ++ intL r.start ++ numL r.writes.length := ⟨_, rfl⟩
  rw [← hL5] at HW5
  have hl55 : L5.length = L.length + (intL r.txn).length + (intL r.home).length + (intL r.start).length + (numL r.writes.length).length := by rw [hL5]; simp; omega
  have HLL5 := Lib.hid hl55
  have HL5 := Lib.hid hL5
  have hl5m : L5.length ≤ 500000 + 129 * 4 := by omega
  clear hL5 hl55 HW5'
  go_wp2_with fail
  go_loopw [29] (fun i wr => ∃ k : Nat, k ≤ r.writes.length ∧ i = vi k ∧ Hid (WrS base p (L5 ++ opsBL (r.writes.take k)) wr ∧ FrW base p w wr ∧ wr.heap[X]? = some (.cells #[vi r.txn, vi r.home, vi r.start, .slice aw r.writes.length cw, .slice ar r.reads.length cr] 29))) (fun i _ => r.writes.length - (intOf i).toNat)
  case atStart => exact ⟨0, Nat.zero_le _, rfl, Lib.hid ⟨by simpa [opsBL] using HW5.out, HFA.out, HX5.out⟩⟩
  case round =>
    obtain ⟨wj, rfl⟩ : ∃ wj : World, wj = wr := ⟨_, rfl⟩
    obtain ⟨k, hk, rfl, HJ⟩ := hrel
    have HBJ := Lib.hid (HJ.out.2.1.toBelow (by have := HXE.out; omega) HJ.out.1.1)
    by_cases hlt : k < r.writes.length
    · have k1 : decide ((k : Int) < r.writes.length) = true := decide_eq_true (by omega)
      have hwk : IntKind.i64.wrap ((k : Int) + 1) = (k : Int) + 1 := IntWalk.i64_in _ (by omega)
      obtain ⟨o, ho⟩ := some_at hlt
      have HO := Lib.hid ho
      have hoi := HI.out.ws o (List.mem_of_getElem? ho)
      obtain ⟨a', n', c', he, _, _, hcells⟩ := (show RdOps wj (.slice aw r.writes.length cw) r.writes from (HRD.out wj HBJ.out).ws).at
      obtain ⟨b, off, ha, k2, k3, k4⟩ := hcells k o ho
      simp only [Value.slice.injEq] at he
      obtain ⟨rfl, -, -⟩ := he
      subst ha
      clear hcells ho
      have hpj := HJ.out.1.lt
      have HWA := Lib.hid (HJ.out.1.alloc (.cells #[vi o.kind, vi o.key, vi o.val] 104))
      have HYA := Lib.hid (Bt.alloc_at wj (.cells #[vi o.kind, vi o.key, vi o.val] 104))
      have HFA1 := Lib.hid ((FrW.refl base p wj).alloc (.cells #[vi o.kind, vi o.key, vi o.val] 104))
      have hjb : base ≤ (wj.alloc (.cells #[vi o.kind, vi o.key, vi o.val] 104)).heap.size := by have := HBJ.out.size; have := HXE.out; simp; omega
      have htk := opsBL_snoc HO.out
      have hlk : (opsBL (r.writes.take k)).length ≤ 258 * r.writes.length := by
        have h1 := opsBL_length (r.writes.take k) (fun x hx => HI.out.ws x (List.mem_of_mem_take hx))
        have h2 : (r.writes.take k).length ≤ r.writes.length := by rw [List.length_take]; omega
        omega
      have hla := intL_length hoi.1
      have HTK := Lib.hid htk
      clear htk
      go_upto_region 8 with fail
      generalize wj.alloc (.cells #[vi o.kind, vi o.key, vi o.val] 104) = wa at *
      obtain ⟨Y, hY⟩ : ∃ Y, Y = wj.heap.size := ⟨_, rfl⟩
      rw [← hY] at HYA hpj ⊢
      have hnY : Y ≠ p := by omega
      have y1 : wa.cell? ⟨Y, 1, none⟩ = some (vi o.key) := by rw [Bt.cell_of HYA.out]; rfl
      have HY := Lib.hid hY
      clear hY
      go_wp2_with (first
        | (go_at_call 33; refine (int_call (L := L5 ++ opsBL (r.writes.take k) ++ intL o.key) o.val wb HWB.out hoi.2.1 hoi.2.2 (by simp; omega) hzb).mono ?_; rintro ec wc ⟨rfl, hwc, hfc⟩; have HWC := Lib.hid hwc; have HFC := Lib.hid hfc; clear hwc hfc)
        | (go_at_call 33; refine (int_call (L := L5 ++ opsBL (r.writes.take k)) o.key wa HWA.out hoi.1.1 hoi.1.2 (by simp; omega) hjb).mono ?_; rintro eb wb ⟨rfl, hwb, hfb⟩; have HWB := Lib.hid hwb; have HFB := Lib.hid hfb; have hzb := Nat.le_trans hjb hfb.size; have y2 : wb.cell? ⟨Y, 2, none⟩ = some (vi o.val) := (by rw [Bt.cell_of (hfb.cells HYA.out hnY (by decide))]; rfl); clear hwb hfb))
      refine ⟨⟨k + 1, by omega, by go_num, Lib.hid ⟨?_, ?_, ?_⟩⟩, by simp only [intOf]; omega⟩
      · rw [HTK.out, ← List.append_assoc, ← List.append_assoc]; exact HWC.out
      · exact ((HJ.out.2.1.trans HFA1.out).trans HFB.out).trans HFC.out
      · exact ((HFA1.out.trans HFB.out).trans HFC.out).cells HJ.out.2.2 hnX (by decide)
    · have k1 : decide ((k : Int) < r.writes.length) = false := decide_eq_false (by omega)
      have hke := Lib.hid (show k = r.writes.length by omega)
      have HWJ := Lib.hid HJ.out.1
      have hjb : base ≤ wj.heap.size := by have := HBJ.out.size; have := HXE.out; omega
      have HWJ2 : Hid (WrS base p (L5 ++ opsBL r.writes) wj) := by have := HJ.out.1; rw [hke.out, List.take_length] at this; exact Lib.hid this
      have HFJ := Lib.hid HJ.out.2.1
      have HXJ := Lib.hid HJ.out.2.2
      have x4 : wj.cell? ⟨X, 4, none⟩ = some (.slice ar r.reads.length cr) := by rw [Bt.cell_of HJ.out.2.2]; rfl
      have hwr2 : IntKind.u64.wrap (r.reads.length : Int) = (r.reads.length : Int) := by rw [IntKind.wrap_u64]; omega
      have HJ0 := HJ
      clear HJ0 HJ HWJ
      go_upto_region 12 with (go_at_call 54; refine (num_call (L := L5 ++ opsBL r.writes) r.reads.length wj HWJ2.out (by omega) (by simp; omega) hjb).mono ?_; rintro e6 w6 ⟨rfl, hw6, hf6⟩; have HW6 := Lib.hid hw6; have HF6 := Lib.hid hf6; have hz6 := Nat.le_trans hjb hf6.size; have x4' : w6.cell? ⟨X, 4, none⟩ = some (.slice ar r.reads.length cr) := (by rw [Bt.cell_of (hf6.cells HXJ.out hnX (by decide))]; rfl); clear hw6 hf6)
      obtain ⟨L6, hL6⟩ : ∃ L6, L6 = L5 ++ opsBL r.writes ++ numL r.reads.length := ⟨_, rfl⟩
      rw [← hL6] at HW6
      have hl66 : L6.length = L5.length + (opsBL r.writes).length + (numL r.reads.length).length := by rw [hL6]; simp; omega
      have hl6m : L6.length ≤ 500000 + 129 * 5 + 258 * 1000 := by omega
      have HL6 := Lib.hid hL6
      have HF6J := Lib.hid (HFJ.out.trans HF6.out)
      clear hL6 hl66
      go_wp2_with fail
      go_loopw [51] (fun i wr => ∃ k : Nat, k ≤ r.reads.length ∧ i = vi k ∧ Hid (WrS base p (L6 ++ intsBL (r.reads.take k)) wr ∧ FrW base p w wr)) (fun i _ => r.reads.length - (intOf i).toNat)
      case atStart => exact ⟨0, Nat.zero_le _, rfl, Lib.hid ⟨by simpa [intsBL] using HW6.out, HF6J.out⟩⟩
      case round =>
        obtain ⟨wq, rfl⟩ : ∃ wq : World, wq = wr := ⟨_, rfl⟩
        obtain ⟨q, hq, rfl, HQ⟩ := hrel
        have HBQ := Lib.hid (HQ.out.2.toBelow (by have := HXE.out; omega) HQ.out.1.1)
        by_cases hlt2 : q < r.reads.length
        · have k1 : decide ((q : Int) < r.reads.length) = true := decide_eq_true (by omega)
          have hwk : IntKind.i64.wrap ((q : Int) + 1) = (q : Int) + 1 := IntWalk.i64_in _ (by omega)
          obtain ⟨o, ho⟩ := some_at hlt2
          have HO := Lib.hid ho
          have hoi := HI.out.rs o (List.mem_of_getElem? ho)
          obtain ⟨a', n', c', he, _, _, hcells⟩ := (show RdInts wq (.slice ar r.reads.length cr) r.reads from (HRD.out wq HBQ.out).rs).at
          obtain ⟨b, off, ha, k2, _⟩ := hcells q o ho
          simp only [Value.slice.injEq] at he
          obtain ⟨rfl, -, -⟩ := he
          subst ha
          have htk := intsBL_snoc ho
          have hlk : (intsBL (r.reads.take q)).length ≤ 129 * r.reads.length := by
            have h1 := intsBL_length (r.reads.take q) (fun x hx => HI.out.rs x (List.mem_of_mem_take hx))
            have h2 : (r.reads.take q).length ≤ r.reads.length := by rw [List.length_take]; omega
            omega
          have hqb : base ≤ wq.heap.size := by have := HBQ.out.size; have := HXE.out; omega
          have HTK := Lib.hid htk
          clear hcells ho htk
          go_wp2_with (go_at_call 33; refine (int_call (L := L6 ++ intsBL (r.reads.take q)) o wq HQ.out.1 hoi.1 hoi.2 (by simp; omega) hqb).mono ?_; rintro eb wb ⟨rfl, hwb, hfb⟩; have HWB := Lib.hid hwb; have HFB := Lib.hid hfb; clear hwb hfb)
          refine ⟨⟨q + 1, by omega, by go_num, Lib.hid ⟨?_, HQ.out.2.trans HFB.out⟩⟩, by simp only [intOf]; omega⟩
          rw [HTK.out, ← List.append_assoc]; exact HWB.out
        · have k1 : decide ((q : Int) < r.reads.length) = false := decide_eq_false (by omega)
          have hqe := Lib.hid (show q = r.reads.length by omega)
          go_wp2_with fail
          go_end0
          refine ⟨rfl, ?_, HQ.out.2⟩
          have h1 := HQ.out.1
          rw [hqe.out, List.take_length] at h1
          have h2 : L ++ rdyBL r = L6 ++ intsBL r.reads := by rw [HL6.out, HL5.out]; simp [rdyBL]
          show WrS base p (L ++ rdyBL r) wq
          rw [h2]; exact h1
end Go.Proofs.Ytdkkpkgfiodlbaa

/- Readings one behind the other. Plain. -/
namespace Go.Proofs.Ytdkkpkgfiodlbaa

theorem RdOK.seq {α β : Type} {e1 : α → List Bool} {o1 : α → Prop} {e2 : β → List Bool} {o2 : β → Prop} {s s1 s2 : Rd} {x : α} {y : β} (h : RdOK e1 o1 s s1 x) (k : RdOK e2 o2 s1 s2 y) :
    RdOK (fun z : α × β => e1 z.1 ++ e2 z.2) (fun z => o1 z.1 ∧ o2 z.2) s s2 (x, y) := by
  refine ⟨fun h0 z t hz e => ?_, fun h0 => ?_⟩
  · obtain ⟨a, b, c⟩ := h.1 h0 z.1 (e2 z.2 ++ t) hz.1 (by rw [e, List.append_assoc])
    obtain ⟨a', b', c'⟩ := k.1 c z.2 t hz.2 b
    exact ⟨by rw [a, a'], b', c'⟩
  · obtain ⟨a, b, c⟩ := k.2 h0
    obtain ⟨a', b', c'⟩ := h.2 a
    exact ⟨a', ⟨b', b⟩, by rw [c', c, List.append_assoc]⟩
/-- The same reading told of another kind of thing. -/
theorem RdOK.map {α β : Type} {e1 : α → List Bool} {o1 : α → Prop} {e2 : β → List Bool} {o2 : β → Prop} {s s1 : Rd} {x : α} (h : RdOK e1 o1 s s1 x) (f : α → β) (g : β → α) (hg : ∀ y, o2 y → o1 (g y) ∧ e2 y = e1 (g y) ∧ f (g y) = y) (hf : ∀ x, o1 x → o2 (f x) ∧ e2 (f x) = e1 x) : RdOK e2 o2 s s1 (f x) := by
  refine ⟨fun h0 y t hy e => ?_, fun h0 => ?_⟩
  · obtain ⟨p, q, r⟩ := hg y hy
    obtain ⟨a, b, c⟩ := h.1 h0 (g y) t p (by rw [e, q])
    exact ⟨by rw [a, r], b, c⟩
  · obtain ⟨a, b, c⟩ := h.2 h0
    obtain ⟨p, q⟩ := hf x b
    exact ⟨a, p, by rw [q, c]⟩
abbrev LenOk {α : Type} (ok : α → Prop) (n : Nat) (l : List α) : Prop := l.length = n ∧ ∀ x ∈ l, ok x
theorem RdOK.none {α : Type} {enc : α → List Bool} {ok : α → Prop} (s : Rd) : RdOK (fun l : List α => l.flatMap enc) (LenOk ok 0) s s [] := by
  refine ⟨fun h0 y t hy e => ?_, fun h0 => ⟨h0, ⟨rfl, fun x h => by cases h⟩, by simp⟩⟩
  obtain rfl := List.length_eq_zero_iff.1 hy.1
  exact ⟨rfl, by simpa using e, h0⟩
theorem RdOK.snoc {α : Type} {enc : α → List Bool} {ok : α → Prop} {k : Nat} {s s1 s2 : Rd} {l : List α} {x : α} (h : RdOK (fun l : List α => l.flatMap enc) (LenOk ok k) s s1 l) (hx : RdOK enc ok s1 s2 x) :
    RdOK (fun l : List α => l.flatMap enc) (LenOk ok (k + 1)) s s2 (l ++ [x]) := by
  refine ⟨fun h0 y t hy e => ?_, fun h0 => ?_⟩
  · obtain ⟨l', x', rfl⟩ : ∃ l' x', y = l' ++ [x'] := by
      have hne : y ≠ [] := fun e => by have := hy.1; rw [e] at this; cases this
      exact ⟨y.dropLast, y.getLast hne, (List.dropLast_concat_getLast hne).symm⟩
    have hl : l'.length = k := by have := hy.1; simp at this; exact this
    obtain ⟨a, b, c⟩ := h.1 h0 l' (enc x' ++ t) ⟨hl, fun z hz => hy.2 z (by simp [hz])⟩ (by rw [e]; simp)
    obtain ⟨a', b', c'⟩ := hx.1 c x' t (hy.2 x' (by simp)) b
    exact ⟨by rw [a, a'], b', c'⟩
  · obtain ⟨a, b, c⟩ := hx.2 h0
    obtain ⟨a', b', c'⟩ := h.2 a
    refine ⟨a', ⟨by simp [b'.1], fun z hz => ?_⟩, by rw [c', c]; simp⟩
    rcases List.mem_append.1 hz with hz | hz
    · exact b'.2 z hz
    · simp at hz; subst hz; exact b
theorem RdOK.cut {α : Type} {enc : α → List Bool} {ok : α → Prop} {k n : Nat} {s s1 : Rd} {l : List α} (h : RdOK (fun l : List α => l.flatMap enc) (LenOk ok k) s s1 l) (hb : s1.bad ≠ 0) (hk : k ≤ n) :
    RdOK (fun l : List α => l.flatMap enc) (LenOk ok n) s s1 l := by
  refine ⟨fun h0 y t hy e => ?_, fun h0 => absurd h0 hb⟩
  obtain ⟨a, b, c⟩ := h.1 h0 (y.take k) ((y.drop k).flatMap enc ++ t) ⟨by rw [List.length_take, hy.1]; omega, fun z hz => hy.2 z (List.mem_of_mem_take hz)⟩ (by
    rw [e, ← List.append_assoc, ← List.flatMap_append, List.take_append_drop])
  exact absurd c hb
def seqL {α : Type} (enc : α → List Bool) (l : List α) : List Bool := numL l.length ++ l.flatMap enc
abbrev SeqOk {α : Type} (ok : α → Prop) (l : List α) : Prop := l.length < 2 ^ 64 ∧ ∀ x ∈ l, ok x
theorem RdOK.dep {α : Type} {enc : α → List Bool} {ok : α → Prop} {n : Nat} {s s1 s2 : Rd} {l : List α} (h : RdOK numL NumOk s s1 n) (k : RdOK (fun l : List α => l.flatMap enc) (LenOk ok n) s1 s2 l) : RdOK (seqL enc) (SeqOk ok) s s2 l := by
  refine ⟨fun h0 y t hy e => ?_, fun h0 => ?_⟩
  · obtain ⟨a, b, c⟩ := h.1 h0 y.length (y.flatMap enc ++ t) hy.1 (by rw [e, seqL, List.append_assoc])
    exact k.1 c y t ⟨a.symm, hy.2⟩ b
  · obtain ⟨a, b, c⟩ := k.2 h0
    obtain ⟨a', b', c'⟩ := h.2 a
    exact ⟨a', ⟨by rw [b.1]; exact b', b.2⟩, by rw [c', c, seqL, b.1, List.append_assoc]⟩
/-- Nothing is read without a bit, unless it is written in none. -/
theorem RdOK.less {α : Type} {enc : α → List Bool} {ok : α → Prop} {s s1 : Rd} {x : α} (h : RdOK enc ok s s1 x) (h0 : s1.bad = 0) : s.rest.length = (enc x).length + s1.rest.length := by
  rw [(h.2 h0).2.2, List.length_append]
theorem RdOK.was {α : Type} {enc : α → List Bool} {ok : α → Prop} {s s1 : Rd} {x : α} (h : RdOK enc ok s s1 x) (h0 : s.bad ≠ 0) : s1.bad ≠ 0 := fun e => h0 (h.2 e).1
theorem numL_pos {x : Nat} (h : x < 2 ^ 64) : 1 ≤ (numL x).length := by
  obtain ⟨m, tl, _, _, _, _, e⟩ := numL_form h
  rw [e]; simp; omega
end Go.Proofs.Ytdkkpkgfiodlbaa
