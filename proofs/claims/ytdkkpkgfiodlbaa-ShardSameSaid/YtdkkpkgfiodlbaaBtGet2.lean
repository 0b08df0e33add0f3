/- (*bits.Reader).Get. -/
import Derived.Test.YtdkkpkgfiodlbaaBtGet
namespace Go.Proofs.Ytdkkpkgfiodlbaa
open Go.RowKit

theorem getS_bad {s : Rd} {n : Nat} (h : s.bad ≠ 0) : getS s n = (0, s) := by rw [getS, if_pos h]
theorem getS_short {s : Rd} {n : Nat} (h : s.bad = 0) (h2 : s.rest.length < n) : getS s n = (0, ⟨s.rest, 10⟩) := by rw [getS, if_neg (by simp [h]), if_pos h2]
theorem getS_ok {s : Rd} {n : Nat} (h : s.bad = 0) (h2 : n ≤ s.rest.length) : getS s n = (valL (s.rest.take n), ⟨s.rest.drop n, 0⟩) := by rw [getS, if_neg (by simp [h]), if_neg (by omega)]
def GetQ (base p : Nat) (s : Rd) (n : Nat) (w : World) (e : Ending) (w' : World) : Prop := e = .returned (.int .u64 ((getS s n).1 : Nat)) ∧ RdrS base p (getS s n).2 w' ∧ w.grownBy w' (some p)
set_option maxHeartbeats 4000000 in
set_option maxRecDepth 100000 in
theorem get_bad {base p : Nat} {s : Rd} (n : Nat) (w : World) (h : RdrS base p s w) (hn : n ≤ 64) (hb : leftS s < n) :
    Calls Try.prog 80 #[.pointer (some ⟨p, 0, none⟩), vi n] w (GetQ base p s n w) := by
  have HW := Lib.hid h
  have HE : Hid (getS s n = (0, ⟨s.rest, if s.bad = 0 then 10 else s.bad⟩)) := by
    by_cases h0 : s.bad = 0
    · rw [getS_short h0 (by unfold leftS at hb; rw [if_neg (by simp [h0])] at hb; exact hb), if_pos h0]; exact Lib.hid rfl
    · rw [getS_bad h0, if_neg h0]; exact Lib.hid rfl
  have hlt : decide ((leftS s : Int) < n) = true := by simp; exact hb
  have hlt2 : decide (leftS s < n) = true := by simp; exact hb
  clear h
  go_enter Try.func80, Try.ntmps80
  go_wp2_with (first
    | (go_at_call 81; refine (left_call w HW.out).mono ?_; rintro e w1 ⟨rfl, n1, rfl⟩)
    | (go_at_call 83; refine (fail_call 10 _ (HW.out.drewN n1)).mono ?_; rintro e2 w2 ⟨rfl, hw2, hg2⟩; have HW2 := Lib.hid hw2; have HG2 := Lib.hid hg2; clear hw2 hg2))
  go_ret
  refine ⟨?_, ?_, ?_⟩
  · rw [HE.out]; rfl
  · rw [HE.out]; exact HW2.out
  · exact gro_trans (gro_drewN (gro_refl _ _) n1) HG2.out
set_option maxHeartbeats 4000000 in
set_option maxRecDepth 100000 in
theorem get_none {base p : Nat} {s : Rd} (w : World) (h : RdrS base p s w) (hb : s.bad ≠ 0) :
    Calls Try.prog 80 #[.pointer (some ⟨p, 0, none⟩), vi (0 : Nat)] w (GetQ base p s 0 w) := by
  have HW := Lib.hid h
  have HE := Lib.hid (getS_bad (n := 0) hb)
  have hl : leftS s = 0 := by unfold leftS; rw [if_pos hb]
  have hlt : decide ((leftS s : Int) < 0) = false := by simp
  clear h hb
  go_enter Try.func80, Try.ntmps80
  go_wp2_with (first
    | (go_at_call 81; refine (left_call w HW.out).mono ?_; rintro e w1 ⟨rfl, n1, rfl⟩))
  refine wp_loop_rounds 1 ?_
  rw [rounds_succ]
  go_wp2_with fail
  go_ret
  refine ⟨?_, ?_, gro_drewN (gro_refl _ _) n1⟩
  · rw [HE.out]; rfl
  · rw [HE.out]; exact HW.out.drewN n1

theorem byte_bit {b k : Nat} (hb : b < 256) {x : Nat} (hx : x < 9223372036854775808) : bits .or .u64 (2 * (x : Int)) (IntKind.u64.wrap (bits .and .u8 ((b : Int) / 2 ^ (7 - k)) 1)) = ((2 * x + (if (b / 2 ^ (7 - k) % 2 == 1) then 1 else 0) : Nat) : Int) := by
  have e1 : (b : Int) / 2 ^ (7 - k) = ((b / 2 ^ (7 - k) : Nat) : Int) := by simp
  have hlt : b / 2 ^ (7 - k) < 256 := Nat.lt_of_le_of_lt (Nat.div_le_self _ _) hb
  have e2 : bits .and .u8 ((b / 2 ^ (7 - k) : Nat) : Int) 1 = ((b / 2 ^ (7 - k) % 2 : Nat) : Int) := by
    generalize b / 2 ^ (7 - k) = y at *
    have := bits_mask .u8 8 (by decide) (fun n h0 h1 => by rw [IntKind.wrap_u8]; omega) 1 (by decide) (y : Int) (by omega) (by omega)
    have h2 : bits .and .u8 (y : Int) 1 = (y : Int) % 2 := this
    rw [h2]; omega
  rw [e1, e2]
  have hy2 : b / 2 ^ (7 - k) % 2 < 2 := Nat.mod_lt _ (by decide)
  have e3 : (2 * (x : Int)) = ((2 * x : Nat) : Int) := by omega
  have e4 : IntKind.u64.wrap ((b / 2 ^ (7 - k) % 2 : Nat) : Int) = ((b / 2 ^ (7 - k) % 2 : Nat) : Int) := by rw [IntKind.wrap_u64]; omega
  rw [e3, e4, u64_or_nat _ _ (by omega) (by omega)]
  rcases (show b / 2 ^ (7 - k) % 2 = 0 ∨ b / 2 ^ (7 - k) % 2 = 1 by omega) with h | h
  · rw [h]; simp
  · rw [h]
    have h3 := Nat.two_pow_add_eq_or_of_lt (i := 1) (b := 1) (by decide) x
    rw [show 2 ^ 1 * x = 2 * x by omega] at h3
    rw [← h3]; simp
set_option maxHeartbeats 4000000 in
set_option maxRecDepth 100000 in
theorem get_ok {base p : Nat} {s : Rd} (n : Nat) (w : World) (h : RdrS base p s w) (hn : n ≤ 64) (hb0 : s.bad = 0) (hle : n ≤ s.rest.length) :
    Calls Try.prog 80 #[.pointer (some ⟨p, 0, none⟩), vi n] w (GetQ base p s n w) := by
  have HW := Lib.hid h
  have HE := Lib.hid (getS_ok hb0 hle)
  have hlt : decide ((leftS s : Int) < n) = false := by simp [leftS, hb0]; exact hle
  have hlt2 : decide (leftS s < n) = false := by simp [leftS, hb0]; exact hle
  obtain ⟨hbp, v, bs, at', hp, ho, hby, hl, hat, hr⟩ := h
  have HP := Lib.hid hp
  have HO := Lib.hid ho
  have HR := Lib.hid hr
  have HBY := Lib.hid hby
  have HB0 := Lib.hid hb0
  have hmin : min (n : Int) 64 = n := by omega
  have hrl : s.rest.length ≤ 8 * bs.length - at' := by rw [← hr]; simp [bitsOf_length]
  clear hp ho hr hby hb0
  go_enter Try.func80, Try.ntmps80
  go_wp2_with (first
    | (go_at_call 81; refine (left_call w HW.out).mono ?_; rintro e w1 ⟨rfl, n1, rfl⟩))
  go_loopw [5, 16] (fun x i wr => ∃ k : Nat, k ≤ n ∧ i = vi k ∧ x = .int .u64 (valL (s.rest.take k) : Nat) ∧ Hid (wr.heap[p]? = some (.cells #[v, vi (at' + k : Nat), vi 0] 155) ∧ w.grownBy wr (some p))) (fun _ i _ => (n : Int).toNat - (intOf i).toNat)
  case atStart =>
    refine ⟨0, Nat.zero_le _, rfl, rfl, Lib.hid ⟨?_, gro_drewN (gro_refl _ _) n1⟩⟩
    show w.heap[p]? = _
    rw [HP.out, HB0.out]; rfl
  case round =>
    obtain ⟨wj, rfl⟩ : ∃ wj : World, wj = wr := ⟨_, rfl⟩
    obtain ⟨k, hk, rfl, rfl, HJ⟩ := hrel
    have ho2 : OwU base wj v bs := Bt.own_frame HO.out (fun g hg => HJ.out.2.block g ((HO.out.lt g hg).2) (fun e => by
      simp only [Option.some.injEq] at e
      subst e
      rcases HO.out.2 with ⟨h1, _⟩ | ⟨g', cap, cur, h1, h2, h3, _⟩
      · rw [h1] at hg; cases hg
      · rw [h1] at hg; simp only [Value.ownBlock, Option.some.injEq] at hg; subst hg; rw [HP.out] at h3; cases h3))
    by_cases hkn : k < n
    · have hkn2 : decide ((k : Int) < n) = true := by simp; exact hkn
      obtain ⟨A, hA⟩ : ∃ A, A = at' + k := ⟨_, rfl⟩
      have HJ1 := HJ.out.1
      have HJ2 := Lib.hid HJ.out.2
      rw [← hA] at HJ1
      have hAl : A < 8 * bs.length := by omega
      have hi : A / 8 < bs.length := by omega
      obtain ⟨b, hb⟩ : ∃ b, bs[(A) / 8]? = some b := ⟨_, List.getElem?_eq_getElem hi⟩
      have hbl : b < 256 := HBY.out b (List.mem_of_getElem? hb)
      have hbit : s.rest[k]? = some (b / 2 ^ (7 - (A) % 8) % 2 == 1) := by rw [← HR.out, List.getElem?_drop, ← hA]; exact bitsOf_at bs _ b hb
      have hv := valL_snoc (s.rest.take k) (b / 2 ^ (7 - (A) % 8) % 2 == 1)
      have htk : s.rest.take (k + 1) = s.rest.take k ++ [b / 2 ^ (7 - (A) % 8) % 2 == 1] := by
        rw [List.take_add_one, hbit]; rfl
      rw [← htk] at hv
      have hvl := valL_lt (s.rest.take k)
      have hvl2 : valL (s.rest.take k) < 9223372036854775808 := by
        refine Nat.lt_of_lt_of_le hvl (Nat.le_trans (Nat.pow_le_pow_right (by decide) (show _ ≤ 63 by rw [List.length_take]; omega)) (by decide))
      obtain ⟨X, hX⟩ : ∃ X, X = valL (s.rest.take k) := ⟨_, rfl⟩
      rw [← hX] at hv hvl2 ⊢
      have hbb := byte_bit (b := b) (k := (A) % 8) hbl (x := X) hvl2
      rw [← hv] at hbb
      have HBB := Lib.hid hbb
      clear hvl hX hv htk hbit hbb
      rcases ho2.2 with ⟨h1, h2⟩ | ⟨g, cap, cur, rfl, hgb, hg, hn2, hm, hs2, ht⟩
      · omega
      have c0 : wj.cell? ⟨p, 0, none⟩ = some (.slice (some ⟨g, 0, none⟩) bs.length cap) := by rw [Bt.cell_of HJ1]; rfl
      have c1 : wj.cell? ⟨p, 1, none⟩ = some (vi (A : Nat)) := by rw [Bt.cell_of HJ1]; rfl
      have c3 : wj.cell? ⟨g, (A) / 8, none⟩ = some (u8 b) := by
        rw [Bt.cell_of hg]
        have h3 : (bs.map u8)[(A) / 8]? = some (u8 b) := by rw [List.getElem?_map, hb]; rfl
        rw [← ht, List.getElem?_take_of_lt (by omega), Array.getElem?_toList] at h3; exact h3
      have f1 : wj.frozen? ⟨p, 1, none⟩ = false := Bt.free_of HJ1 1
      have h7 : bits .and .i64 ((A : Nat) : Int) 7 = (((A) % 8 : Nat) : Int) := and7 _ (by omega)
      have hw1 : IntKind.u64.wrap ((X : Int) * 2) = ((2 * X : Nat) : Int) := by rw [IntKind.wrap_u64]; omega
      have hw2 : IntKind.i64.wrap (((A : Nat) : Int) + 1) = ((A : Nat) : Int) + 1 := IntWalk.i64_in _ (by omega)
      have hi2 : (A : Int) / 8 < bs.length := by omega
      have hi3 : (A : Int) < 8 * bs.length := by omega
      have HHA := Lib.hid hA
      have HJ1' := Lib.hid HJ1
      clear hg hs2 ht hb hA HJ HJ1
      go_wp2_with fail
      go_quiet (fail)
      go_wp2_with fail
      refine ⟨⟨k + 1, by omega, by go_num, by rw [HBB.out], Lib.hid ⟨?_, gro_setP (gro_drewN HJ2.out nq) _⟩⟩, by simp only [intOf]; omega⟩
      have h1 : ((wj.drewN nq).setCell ⟨p, 1, none⟩ (.int .i64 ((A : Int) + 1))).heap[p]? = _ := Bt.cells_set _ HJ1'.out
      refine (show _ = _ from h1).trans ?_
      rw [HHA.out]
      simp; omega
    · have hkn2 : decide ((k : Int) < n) = false := by simp; omega
      have hke : k = n := by omega
      have HKE := Lib.hid hke
      clear hke
      go_wp2_with fail
      go_ret
      refine ⟨?_, ?_, HJ.out.2⟩
      · rw [HE.out, HKE.out]; rfl
      · rw [HE.out]
        refine ⟨hbp, v, bs, at' + k, HJ.out.1, ho2, HBY.out, hl, by omega, ?_⟩
        rw [← HR.out, List.drop_drop, HKE.out]
theorem get_call {base p : Nat} {s : Rd} (n : Nat) (w : World) (h : RdrS base p s w) (hn : n ≤ 64) :
    Calls Try.prog 80 #[.pointer (some ⟨p, 0, none⟩), vi n] w (GetQ base p s n w) := by
  by_cases hl : leftS s < n
  · exact get_bad n w h hn hl
  · by_cases h0 : s.bad = 0
    · exact get_ok n w h hn h0 (by unfold leftS at hl; rw [if_neg (by simp [h0])] at hl; omega)
    · have : n = 0 := by unfold leftS at hl; rw [if_pos h0] at hl; omega
      subst this
      exact get_none w h h0
end Go.Proofs.Ytdkkpkgfiodlbaa