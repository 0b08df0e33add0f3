/- (*bits.Reader).Num. -/
import Derived.Test.YtdkkpkgfiodlbaaBtGet2
import Derived.Test.YtdkkpkgfiodlbaaBtNumP
namespace Go.Proofs.Ytdkkpkgfiodlbaa
open Go.RowKit

theorem RdrS.badCell {base p : Nat} {s : Rd} {W : World} (h : RdrS base p s W) : W.cell? ⟨p, 2, none⟩ = some (vi s.bad) := by
  obtain ⟨_, v, bs, at', h1, _⟩ := h
  rw [Bt.cell_of h1]; rfl
def Get1Q (base p : Nat) (s : Rd) (n x : Nat) (s' : Rd) (w : World) (e : Ending) (w' : World) : Prop := e = .returned (.int .u64 (x : Nat)) ∧ RdrS base p s' w' ∧ w.grownBy w' (some p)
theorem get_as {base p : Nat} {s : Rd} (n x : Nat) (s' : Rd) (w : World) (h : RdrS base p s w) (hn : n ≤ 64) (he : getS s n = (x, s')) (i : Int) (hi : i = n) :
    Calls Try.prog 80 #[.pointer (some ⟨p, 0, none⟩), .int .i64 i] w (Get1Q base p s n x s' w) := by
  subst hi
  refine (get_call n w h hn).mono ?_
  rintro e w' ⟨h1, h2, h3⟩
  rw [he] at h1 h2
  exact ⟨h1, h2, h3⟩
def NumRQ (base p : Nat) (s : Rd) (w : World) (e : Ending) (w' : World) : Prop := ∃ x s', e = .returned (.int .u64 (x : Nat)) ∧ x < 2 ^ 64 ∧ RdOK numL NumOk s s' x ∧ RdrS base p s' w' ∧ w.grownBy w' (some p)
theorem shl_or {k v : Nat} (hk : k < 64) (hv : v < 2 ^ k) : bits .or .u64 ((2 ^ k : Nat) : Int) (v : Int) = ((2 ^ k + v : Nat) : Int) := by
  have h1 : (2 : Nat) ^ k < 2 ^ 64 := Nat.pow_lt_pow_right (by decide) hk
  rw [u64_or_nat _ _ (by omega) (by omega)]
  have h3 := Nat.two_pow_add_eq_or_of_lt hv 1
  rw [Nat.mul_one] at h3
  rw [h3]
theorem num_val {k X : Nat} (hk : k < 64) (hX : X < 2 ^ k) : IntKind.u64.wrap (bits .or .u64 (IntKind.u64.wrap (2 ^ k)) (X : Int) - 1) = ((2 ^ k + X - 1 : Nat) : Int) := by
  have h1 : (2 : Nat) ^ k ≤ 2 ^ 63 := Nat.pow_le_pow_right (by decide) (by omega)
  have h2 := Nat.two_pow_pos k
  have e : ((2 : Int) ^ k) = ((2 ^ k : Nat) : Int) := by simp
  have e2 : IntKind.u64.wrap ((2 ^ k : Nat) : Int) = ((2 ^ k : Nat) : Int) := by rw [IntKind.wrap_u64]; omega
  rw [e, e2, shl_or hk hX, IntKind.wrap_u64]
  omega
set_option maxHeartbeats 4000000 in
set_option maxRecDepth 100000 in
theorem numR_call {base p : Nat} {s : Rd} (w : World) (h : RdrS base p s w) :
    Calls Try.prog 55 #[.pointer (some ⟨p, 0, none⟩)] w (NumRQ base p s w) := by
  have HW := Lib.hid h
  clear h
  go_enter Try.func55, Try.ntmps55
  go_wp2_with fail
  go_loopw [3] (fun n wr => ∃ k : Nat, k ≤ 64 ∧ n = vi k ∧ Hid (∃ r, (s.bad = 0 ∨ k = 0) ∧ s.rest = List.replicate k false ++ r ∧ RdrS base p ⟨r, s.bad⟩ wr ∧ w.grownBy wr (some p))) (fun n _ => 64 - (intOf n).toNat)
  case atStart => exact ⟨0, by omega, rfl, Lib.hid ⟨s.rest, .inr rfl, rfl, HW.out, gro_refl _ _⟩⟩
  case round =>
    obtain ⟨wj, rfl⟩ : ∃ wj : World, wj = wr := ⟨_, rfl⟩
    obtain ⟨k, hk, rfl, HJ⟩ := hrel
    obtain ⟨r, hor, hre, hS, hG⟩ := HJ.out
    have HRE := Lib.hid hre
    have HS := Lib.hid hS
    have HG := Lib.hid hG
    clear HJ hre hS hG
    by_cases hb : s.bad = 0
    · have HB := Lib.hid hb
      clear hb hor
      cases r with
      | nil =>
        have HGE : Hid (getS ⟨[], s.bad⟩ 1 = (0, ⟨[], 10⟩)) := by rw [getS_short (s := ⟨[], s.bad⟩) HB.out (by simp)]; exact Lib.hid rfl
        go_wp2_with (go_at_call 80; refine (get_as 1 0 ⟨[], 10⟩ wj HS.out (by decide) HGE.out 1 rfl).mono ?_; rintro e1 w1 ⟨rfl, hs1, hg1⟩; have hc1 := hs1.badCell; have HS1 := Lib.hid hs1; have HG1 := Lib.hid hg1; clear hs1 hg1)
        go_ret
        refine ⟨0, ⟨[], 10⟩, rfl, by decide, num_stop (by simp) (fun _ => num_short (k := k) (by rw [HRE.out]; simp)), HS1.out, gro_trans HG.out HG1.out⟩
      | cons b r =>
        cases b with
        | false =>
          have HGE : Hid (getS ⟨false :: r, s.bad⟩ 1 = (0, ⟨r, 0⟩)) := by rw [getS_ok (s := ⟨false :: r, s.bad⟩) HB.out (by simp)]; exact Lib.hid rfl
          have hw1 : IntKind.i64.wrap ((k : Int) + 1) = (k : Int) + 1 := IntWalk.i64_in _ (by omega)
          by_cases hk2 : k = 64
          · have hk3 : decide ((64 : Int) < k + 1) = true := by simp; omega
            have HK := Lib.hid hk2
            clear hk2
            go_wp2_with (first
              | (go_at_call 83; refine (fail_call 11 w1 HS1.out).mono ?_; rintro e2 w2 ⟨rfl, hs2, hg2⟩; have HS2 := Lib.hid hs2; have HG2 := Lib.hid hg2; clear hs2 hg2)
              | (go_at_call 80; refine (get_as 1 0 ⟨r, 0⟩ wj HS.out (by decide) HGE.out 1 rfl).mono ?_; rintro e1 w1 ⟨rfl, hs1, hg1⟩; have hc1 := hs1.badCell; have HS1 := Lib.hid hs1; have HG1 := Lib.hid hg1; clear hs1 hg1))
            go_ret
            refine ⟨0, ⟨r, 11⟩, rfl, by decide, num_stop (by simp) (fun _ => num_form (b := r) (by rw [HRE.out, HK.out]; rfl)), HS2.out, gro_trans (gro_trans HG.out HG1.out) HG2.out⟩
          · have hk3 : decide ((64 : Int) < k + 1) = false := by simp; omega
            have hk4 : k + 1 ≤ 64 := by omega
            clear hk2
            go_wp2_with (first
              | (go_at_call 80; refine (get_as 1 0 ⟨r, 0⟩ wj HS.out (by decide) HGE.out 1 rfl).mono ?_; rintro e1 w1 ⟨rfl, hs1, hg1⟩; have hc1 := hs1.badCell; have HS1 := Lib.hid hs1; have HG1 := Lib.hid hg1; clear hs1 hg1))
            refine ⟨⟨k + 1, hk4, by go_num, Lib.hid ⟨r, .inl HB.out, ?_, ?_, gro_trans HG.out HG1.out⟩⟩, by simp only [intOf]; omega⟩
            · rw [HRE.out, List.replicate_succ', List.append_assoc]; rfl
            · rw [HB.out]; exact HS1.out
        | true =>
          have HGE : Hid (getS ⟨true :: r, s.bad⟩ 1 = (1, ⟨r, 0⟩)) := by rw [getS_ok (s := ⟨true :: r, s.bad⟩) HB.out (by simp)]; exact Lib.hid rfl
          by_cases hk2 : k = 64
          · have HK := Lib.hid hk2
            have hk3 : ((k : Int) == 64) = true := by simp; omega
            clear hk2
            by_cases hl : r.length < 64
            · have HG2E : Hid (getS ⟨r, 0⟩ 64 = (0, ⟨r, 10⟩)) := by rw [getS_short (s := ⟨r, 0⟩) rfl hl]; exact Lib.hid rfl
              go_wp2_with (first
                | (go_at_call 80; refine (get_as 64 0 ⟨r, 10⟩ w1 HS1.out (by omega) HG2E.out 64 rfl).mono ?_; rintro e2 w2 ⟨rfl, hs2, hg2⟩; have hc2 := hs2.badCell; have HS2 := Lib.hid hs2; have HG2 := Lib.hid hg2; clear hs2 hg2)
                | (go_at_call 80; refine (get_as 1 1 ⟨r, 0⟩ wj HS.out (by decide) HGE.out 1 rfl).mono ?_; rintro e1 w1 ⟨rfl, hs1, hg1⟩; have hc1 := hs1.badCell; have HS1 := Lib.hid hs1; have HG1 := Lib.hid hg1; clear hs1 hg1))
              go_ret
              exact ⟨0, ⟨r, 10⟩, rfl, by decide, num_stop (by simp) (fun _ => num_cut (k := k) (r := r) HRE.out (.inl (by rw [HK.out]; exact hl))), HS2.out, gro_trans (gro_trans HG.out HG1.out) HG2.out⟩
            · have hlr : 64 ≤ r.length := by omega
              obtain ⟨X, hX⟩ : ∃ X, X = valL (r.take 64) := ⟨_, rfl⟩
              have HG2E : Hid (getS ⟨r, 0⟩ 64 = (X, ⟨r.drop 64, 0⟩)) := by rw [getS_ok (s := ⟨r, 0⟩) rfl hlr, hX]; exact Lib.hid rfl
              have HX := Lib.hid hX
              clear hX
              by_cases hx0 : X = 0
              · have hx1 : ((X : Int) != 0) = false := by simp [hx0]
                have HX0 := Lib.hid hx0
                clear hx0
                go_wp2_with (first
                  | (go_at_call 80; refine (get_as 64 X ⟨r.drop 64, 0⟩ w1 HS1.out (by omega) HG2E.out 64 rfl).mono ?_; rintro e2 w2 ⟨rfl, hs2, hg2⟩; have hc2 := hs2.badCell; have HS2 := Lib.hid hs2; have HG2 := Lib.hid hg2; clear hs2 hg2)
                  | (go_at_call 80; refine (get_as 1 1 ⟨r, 0⟩ wj HS.out (by decide) HGE.out 1 rfl).mono ?_; rintro e1 w1 ⟨rfl, hs1, hg1⟩; have hc1 := hs1.badCell; have HS1 := Lib.hid hs1; have HG1 := Lib.hid hg1; clear hs1 hg1))
                go_ret
                refine ⟨2 ^ 64 - 1, ⟨r.drop 64, 0⟩, rfl, by decide, ?_, HS2.out, gro_trans (gro_trans HG.out HG1.out) HG2.out⟩
                have hv0 : valL (r.take 64) = 0 := HX.out.symm.trans HX0.out
                refine num_read (k := 64) HB.out (by have := HRE.out; rw [HK.out] at this; exact this) (Nat.le_refl _) hlr (by rw [hv0]; decide) (by rw [hv0])
              · have hx1 : ((X : Int) != 0) = true := by simp; exact hx0
                go_wp2_with (first
                  | (go_at_call 83; refine (fail_call 11 w2 HS2.out).mono ?_; rintro e3 w3 ⟨rfl, hs3, hg3⟩; have HS3 := Lib.hid hs3; have HG3 := Lib.hid hg3; clear hs3 hg3)
                  | (go_at_call 80; refine (get_as 64 X ⟨r.drop 64, 0⟩ w1 HS1.out (by omega) HG2E.out 64 rfl).mono ?_; rintro e2 w2 ⟨rfl, hs2, hg2⟩; have hc2 := hs2.badCell; have HS2 := Lib.hid hs2; have HG2 := Lib.hid hg2; clear hs2 hg2)
                  | (go_at_call 80; refine (get_as 1 1 ⟨r, 0⟩ wj HS.out (by decide) HGE.out 1 rfl).mono ?_; rintro e1 w1 ⟨rfl, hs1, hg1⟩; have hc1 := hs1.badCell; have HS1 := Lib.hid hs1; have HG1 := Lib.hid hg1; clear hs1 hg1))
                go_ret
                exact ⟨0, ⟨r.drop 64, 11⟩, rfl, by decide, num_stop (by simp) (fun _ => num_cut (k := k) (r := r) HRE.out (.inr ⟨HK.out, by rw [← HX.out]; exact hx0⟩)), HS3.out, gro_trans (gro_trans (gro_trans HG.out HG1.out) HG2.out) HG3.out⟩
          · have hk3 : ((k : Int) == 64) = false := by simp; omega
            have hk4 : k < 64 := by omega
            clear hk2
            by_cases hl : r.length < k
            · have HG2E : Hid (getS ⟨r, 0⟩ k = (0, ⟨r, 10⟩)) := by rw [getS_short (s := ⟨r, 0⟩) rfl hl]; exact Lib.hid rfl
              go_wp2_with (first
                | (go_at_call 80; refine (get_as k 0 ⟨r, 10⟩ w1 HS1.out (by omega) HG2E.out k rfl).mono ?_; rintro e2 w2 ⟨rfl, hs2, hg2⟩; have hc2 := hs2.badCell; have HS2 := Lib.hid hs2; have HG2 := Lib.hid hg2; clear hs2 hg2)
                | (go_at_call 80; refine (get_as 1 1 ⟨r, 0⟩ wj HS.out (by decide) HGE.out 1 rfl).mono ?_; rintro e1 w1 ⟨rfl, hs1, hg1⟩; have hc1 := hs1.badCell; have HS1 := Lib.hid hs1; have HG1 := Lib.hid hg1; clear hs1 hg1))
              go_ret
              exact ⟨0, ⟨r, 10⟩, rfl, by decide, num_stop (by simp) (fun _ => num_cut (k := k) (r := r) HRE.out (.inl hl)), HS2.out, gro_trans (gro_trans HG.out HG1.out) HG2.out⟩
            · have HG2E : Hid (getS ⟨r, 0⟩ k = (valL (r.take k), ⟨r.drop k, 0⟩)) := by rw [getS_ok (s := ⟨r, 0⟩) rfl (by simp; omega)]; exact Lib.hid rfl
              have hvl := valL_lt (r.take k)
              have HVL : valL (r.take k) < 2 ^ k := Nat.lt_of_lt_of_le hvl (Nat.pow_le_pow_right (by decide) (by rw [List.length_take]; omega))
              have hpk : 2 ^ k ≤ 2 ^ 63 := Nat.pow_le_pow_right (by decide) (by omega)
              have hpp := Nat.two_pow_pos k
              obtain ⟨X, hX⟩ : ∃ X, X = valL (r.take k) := ⟨_, rfl⟩
              rw [← hX] at HVL HG2E
              have hso := Lib.hid (num_val hk4 HVL)
              have hlr : k ≤ r.length := by omega
              have HX := Lib.hid hX
              clear hX hvl
              go_wp2_with (first
                | (go_at_call 80; refine (get_as k X ⟨r.drop k, 0⟩ w1 HS1.out (by omega) HG2E.out k rfl).mono ?_; rintro e2 w2 ⟨rfl, hs2, hg2⟩; have hc2 := hs2.badCell; have HS2 := Lib.hid hs2; have HG2 := Lib.hid hg2; clear hs2 hg2)
                | (go_at_call 80; refine (get_as 1 1 ⟨r, 0⟩ wj HS.out (by decide) HGE.out 1 rfl).mono ?_; rintro e1 w1 ⟨rfl, hs1, hg1⟩; have hc1 := hs1.badCell; have HS1 := Lib.hid hs1; have HG1 := Lib.hid hg1; clear hs1 hg1))
              go_ret
              refine ⟨2 ^ k + X - 1, ⟨r.drop k, 0⟩, congrArg Ending.returned (congrArg (Value.int IntKind.u64) hso.out), by omega, num_read HB.out HRE.out hk hlr (by rw [← HX.out]; omega) (by rw [← HX.out]), HS2.out, gro_trans (gro_trans HG.out HG1.out) HG2.out⟩
    · have HB := Lib.hid hb
      have hk0 : k = 0 := by rcases hor with h | h; exact absurd h hb; exact h
      have hbb : (s.bad != 0) = true := by simp [hb]
      clear hb hor hk0
      have HGE : Hid (getS ⟨r, s.bad⟩ 1 = (0, ⟨r, s.bad⟩)) := by rw [getS_bad (s := ⟨r, s.bad⟩) HB.out]; exact Lib.hid rfl
      go_wp2_with (go_at_call 80; refine (get_as 1 0 ⟨r, s.bad⟩ wj HS.out (by decide) HGE.out 1 rfl).mono ?_; rintro e1 w1 ⟨rfl, hs1, hg1⟩; have hc1 := hs1.badCell; have HS1 := Lib.hid hs1; have HG1 := Lib.hid hg1; clear hs1 hg1)
      go_ret
      refine ⟨0, ⟨r, s.bad⟩, rfl, by decide, num_stop HB.out (fun h => absurd h HB.out), HS1.out, gro_trans HG.out HG1.out⟩
end Go.Proofs.Ytdkkpkgfiodlbaa