/- (*bits.Reader).End; bits.Read. -/
import Derived.Test.YtdkkpkgfiodlbaaBtIntR
namespace Go.Proofs.Ytdkkpkgfiodlbaa
open Go.RowKit

theorem last_and {b n : Nat} (hb : b < 256) (hn : n ≤ 7) : bits .and .u8 (b : Int) ((2 ^ n - 1) % 256) = ((b % 2 ^ n : Nat) : Int) := by
  have h2 : ((2 : Int) ^ n - 1) % 256 = ((2 ^ n - 1 : Nat) : Int) := by
    rcases (show n = 0 ∨ n = 1 ∨ n = 2 ∨ n = 3 ∨ n = 4 ∨ n = 5 ∨ n = 6 ∨ n = 7 by omega) with rfl | rfl | rfl | rfl | rfl | rfl | rfl | rfl <;> decide
  have hp : 2 ^ n ≤ 2 ^ 7 := Nat.pow_le_pow_right (by decide) hn
  rw [h2, u8_and_nat b _ hb (by omega), Nat.and_two_pow_sub_one_eq_mod]
set_option maxHeartbeats 4000000 in
set_option maxRecDepth 100000 in
theorem end_call {base p : Nat} {s : Rd} (w : World) (h : RdrS base p s w) :
    Calls Try.prog 53 #[.pointer (some ⟨p, 0, none⟩)] w (EndQ s w) := by
  have HW := Lib.hid h
  have c2 := h.badCell
  by_cases hb : s.bad = 0
  · have HB := Lib.hid hb
    have hls : leftS s = s.rest.length := by unfold leftS; rw [if_neg (by simp [hb])]
    obtain ⟨n, hn⟩ : ∃ n, n = s.rest.length := ⟨_, rfl⟩
    rw [← hn] at hls
    have HL := Lib.hid hls
    have HN := Lib.hid hn
    have hbb : (s.bad != 0) = false := by simp [hb]
    obtain ⟨hbp, v, bs, at', hp, ho, hby, hl, hat, hr⟩ := h
    have hle : n = 8 * bs.length - at' := by rw [hn, ← hr]; simp [bitsOf_length]
    have HLE := Lib.hid hle
    clear hls hn hb
    by_cases h7 : 7 < n
    · have h71 : decide ((7 : Int) < n) = true := decide_eq_true (by omega)
      clear hp ho hby hr hle
      go_enter Try.func53, Try.ntmps53
      go_wp2_with (go_at_call 81; refine (left_call w HW.out).mono ?_; rintro e w1 ⟨rfl, n1, rfl⟩; rw [HL.out])
      go_quiet (fail)
      go_wp2_with fail
      go_ret
      exact ⟨12, rfl, ⟨fun h => (by cases h), fun h => (by have h1 := h.2.1; have := HN.out; omega)⟩, fun _ => .inr rfl, fun h => absurd HB.out h, _, World.drewN_drewN _ _ _⟩
    · have h71 : decide ((7 : Int) < n) = false := decide_eq_false (by omega)
      by_cases h0 : n = 0
      · have h01 : decide ((0 : Int) < n) = false := decide_eq_false (by omega)
        have h02 : decide (0 < n) = false := decide_eq_false (by omega)
        have HN0 := Lib.hid h0
        clear hp ho hby hr hle h0
        go_enter Try.func53, Try.ntmps53
        go_wp2_with (go_at_call 81; refine (left_call w HW.out).mono ?_; rintro e w1 ⟨rfl, n1, rfl⟩; rw [HL.out])
        go_quiet (fail)
        go_wp2_with fail
        go_ret
        have he : s.rest = [] := List.length_eq_zero_iff.1 (by rw [← HN.out, HN0.out])
        exact ⟨0, rfl, ⟨fun _ => ⟨HB.out, by rw [he]; simp, by rw [he]; rfl⟩, fun _ => rfl⟩, fun _ => .inl rfl, fun h => absurd HB.out h, _, World.drewN_drewN _ _ _⟩
      · have h01 : decide ((0 : Int) < n) = true := decide_eq_true (by omega)
        have h02 : decide (0 < n) = true := decide_eq_true (by omega)
        rcases ho.2 with ⟨hv, h2⟩ | ⟨g, cap, cur, rfl, hgb, hg, hn2, hm, hs2, ht⟩
        · omega
        have hlen : bs.length - 1 < bs.length := by omega
        obtain ⟨b, hbe⟩ : ∃ b, bs[bs.length - 1]? = some b := ⟨_, List.getElem?_eq_getElem hlen⟩
        have hb256 : b < 256 := hby b (List.mem_of_getElem? hbe)
        have hlb := last_bits hbe hle.symm (by omega) (by omega)
        rw [hr] at hlb
        have hval : valL s.rest = b % 2 ^ n := by rw [hlb, valL_putL]
        have c0 : w.cell? ⟨p, 0, none⟩ = some (.slice (some ⟨g, 0, none⟩) bs.length cap) := by rw [Bt.cell_of hp]; rfl
        have c3 : w.cell? ⟨g, bs.length - 1, none⟩ = some (u8 b) := by
          rw [Bt.cell_of hg]
          have h3 : (bs.map u8)[bs.length - 1]? = some (u8 b) := by rw [List.getElem?_map, hbe]; rfl
          rw [← ht, List.getElem?_take_of_lt (by omega), Array.getElem?_toList] at h3; exact h3
        obtain ⟨m, hm2⟩ : ∃ m, bs.length = m + 1 := ⟨bs.length - 1, by omega⟩
        have hla := last_and hb256 (n := n) (by omega)
        obtain ⟨Y, hY⟩ : ∃ Y, Y = b % 2 ^ n := ⟨_, rfl⟩
        rw [← hY] at hla hval
        clear hY
        have H77 := Lib.hid (show n ≤ 7 by omega)
        have HV := Lib.hid hval
        rw [hm2] at c0 c3
        simp only [Nat.add_sub_cancel] at c3
        have hw1 : IntKind.i64.wrap (m : Int) = (m : Int) := IntWalk.i64_in _ (by omega)
        have hw2 : (((m + 1 : Nat) : Int) - 1) = (m : Int) := by omega
        have hi : (m : Int) < ((m + 1 : Nat) : Int) := by omega
        have hi2 : (m : Int) < (m : Int) + 1 := by omega
        clear hp ho hby hr hle h0 hg hs2 ht hbe hlb hval hm2 hat hn2
        by_cases hy : Y = 0
        · have hy1 : ((Y : Int) != 0) = false := by simp [hy]
          have HY := Lib.hid hy
          clear hy
          go_enter Try.func53, Try.ntmps53
          go_wp2_with (go_at_call 81; refine (left_call w HW.out).mono ?_; rintro e w1 ⟨rfl, n1, rfl⟩; rw [HL.out])
          go_quiet (fail)
          go_wp2_with fail
          go_ret
          exact ⟨0, rfl, ⟨fun _ => ⟨HB.out, by rw [← HN.out]; exact H77.out, by rw [HV.out, HY.out]⟩, fun _ => rfl⟩, fun _ => .inl rfl, fun h => absurd HB.out h, _, World.drewN_drewN _ _ _⟩
        · have hy1 : ((Y : Int) != 0) = true := by simp; exact hy
          have HY := Lib.hid hy
          clear hy
          go_enter Try.func53, Try.ntmps53
          go_wp2_with (go_at_call 81; refine (left_call w HW.out).mono ?_; rintro e w1 ⟨rfl, n1, rfl⟩; rw [HL.out])
          go_quiet (fail)
          go_wp2_with fail
          go_ret
          exact ⟨12, rfl, ⟨fun h => (by cases h), fun h => absurd (HV.out.symm.trans h.2.2) HY.out⟩, fun _ => .inr rfl, fun h => absurd HB.out h, _, World.drewN_drewN _ _ _⟩
  · have HB := Lib.hid hb
    have hbb : (s.bad != 0) = true := by simp [hb]
    clear h hb
    go_enter Try.func53, Try.ntmps53
    go_wp2_with fail
    go_ret
    exact ⟨s.bad, rfl, ⟨fun h => absurd h HB.out, fun h => absurd h.1 HB.out⟩, fun h => absurd h HB.out, fun _ => rfl, 0, rfl⟩

/-- The bits of what was written. -/
theorem bitsOf_btBytes (L : List Bool) : ∃ z, z ≤ 7 ∧ bitsOf (btBytes L) = L ++ List.replicate z false := by
  have hlen : (bitsOf (btBytes L)).length = 8 * ((L.length + 7) / 8) := by rw [bitsOf_length, btBytes_length]
  refine ⟨8 * ((L.length + 7) / 8) - L.length, by omega, ?_⟩
  apply List.ext_getElem?
  intro i
  by_cases hi : i < 8 * ((L.length + 7) / 8)
  · have hj : i / 8 < (L.length + 7) / 8 := by omega
    rw [bitsOf_at _ i _ (btBytes_at hj)]
    have hv : (btByte L (i / 8) / 2 ^ (7 - i % 8) % 2 == 1) = (L[i]? == some true) := by
      have h := fun k => btv_le L (8 * (i / 8) + k)
      have e0 : btv L (8 * (i / 8)) ≤ 1 := btv_le _ _
      have e1 := h 1; have e2 := h 2; have e3 := h 3; have e4 := h 4; have e5 := h 5; have e6 := h 6; have e7 := h 7
      have hb : btv L i = btByte L (i / 8) / 2 ^ (7 - i % 8) % 2 := by
        unfold btByte
        rcases (show i % 8 = 0 ∨ i % 8 = 1 ∨ i % 8 = 2 ∨ i % 8 = 3 ∨ i % 8 = 4 ∨ i % 8 = 5 ∨ i % 8 = 6 ∨ i % 8 = 7 by omega) with hk | hk | hk | hk | hk | hk | hk | hk
        · have : i = 8 * (i / 8) := by omega
          rw [hk]; rw [show btv L i = btv L (8 * (i / 8)) by rw [← this]]; simp only [Nat.reducePow, Nat.reduceSub]; omega
        · rw [hk]; rw [show btv L i = btv L (8 * (i / 8) + 1) by congr 1; omega]; simp only [Nat.reducePow, Nat.reduceSub]; omega
        · rw [hk]; rw [show btv L i = btv L (8 * (i / 8) + 2) by congr 1; omega]; simp only [Nat.reducePow, Nat.reduceSub]; omega
        · rw [hk]; rw [show btv L i = btv L (8 * (i / 8) + 3) by congr 1; omega]; simp only [Nat.reducePow, Nat.reduceSub]; omega
        · rw [hk]; rw [show btv L i = btv L (8 * (i / 8) + 4) by congr 1; omega]; simp only [Nat.reducePow, Nat.reduceSub]; omega
        · rw [hk]; rw [show btv L i = btv L (8 * (i / 8) + 5) by congr 1; omega]; simp only [Nat.reducePow, Nat.reduceSub]; omega
        · rw [hk]; rw [show btv L i = btv L (8 * (i / 8) + 6) by congr 1; omega]; simp only [Nat.reducePow, Nat.reduceSub]; omega
        · rw [hk]; rw [show btv L i = btv L (8 * (i / 8) + 7) by congr 1; omega]; simp only [Nat.reducePow, Nat.reduceSub]; omega
      rw [← hb]; unfold btv
      by_cases ht : L[i]? = some true
      · rw [if_pos ht, ht]; rfl
      · rw [if_neg ht, show (L[i]? == some true) = false by simpa using ht]; rfl
    rw [hv]
    by_cases hL : i < L.length
    · rw [List.getElem?_append_left hL, List.getElem?_eq_getElem hL]
      cases L[i] <;> rfl
    · rw [List.getElem?_append_right (by omega), List.getElem?_eq_none (by omega), List.getElem?_replicate, if_pos (by omega)]; rfl
  · rw [List.getElem?_eq_none (by omega), List.getElem?_eq_none (by simp; omega)]
end Go.Proofs.Ytdkkpkgfiodlbaa