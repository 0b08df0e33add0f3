/- cruciblelaw18.head: the document's example. -/
import Derived.Test.YthpdenmbcjngkaaLnTk
import Derived.Laws.IdiomStrings
import Derived.Laws.BytesArg
namespace Go.Proofs.Ythpdenmbcjngkaa
open Go.RowKit Go.Maps

/-- '[]byte(s)' of a string of one byte. -/
theorem conv_one (w : World) (b : UInt8) : ∃ c w', (convert 9 30 (.string ⟨#[b]⟩)).run Try.prog w = .ok (.slice (some ⟨w.heap.size, 0, none⟩) 1 c) w' ∧ RdB8 w' (.slice (some ⟨w.heap.size, 0, none⟩) 1 c) [(b.toNat : Int)] ∧ Below w.heap.size w w' := by
  have h := run_bytes_of_string (P := Try.prog) w 9 30 5 ⟨#[b]⟩ Try.underlying9 Try.underlying30 Try.underlying5
  refine ⟨_, _, h, ?_, ((Below.refl w.heap.size w).drew).alloc (Nat.le_refl _) _⟩
  refine ⟨some ⟨w.heap.size, 0, none⟩, 1, _, rfl, rfl, by simp, grownCap_ge w 1 0 _, (fun h => by cases h), fun j x hj => ?_⟩
  have hj0 : j = 0 := by have := (List.getElem?_eq_some_iff.1 hj).1; simp at this; omega
  subst hj0
  simp at hj; subst hj
  refine ⟨w.heap.size, 0, [u8 (b.toNat : Int)], rfl, rfl, fun i u hu => ?_, rfl⟩
  have hi : i = 0 := by have := (List.getElem?_eq_some_iff.1 hu).1; simp at this; omega
  subst hi
  simp at hu; subst hu
  show (w.drew.alloc _).cell? ⟨w.drew.heap.size, 0, none⟩ = _
  rw [cell_of (alloc_at w.drew _)]
  simp only [bytesRow]
  rw [Array.getElem?_append_left (by simp)]
  simp
theorem OwB.stays {base : Nat} {A B : World} {v : Value} {bs : List Int} (h : OwB base A v bs) (hs : Stays A B) : OwB base B v bs := by
  refine ⟨h.1, ?_⟩
  rcases h.2 with h2 | ⟨g, cap, cur, hv, hg, hh, r⟩
  · exact .inl h2
  · exact .inr ⟨g, cap, cur, hv, hg, hs g cur _ hh (by decide) (by decide), r⟩
/-- 'string(b)' of one byte. -/
theorem back_one {w : World} {v : Value} {b : UInt8} (h : RdB8 w v [(b.toNat : Int)]) : ∃ a c, v = .slice (some a) 1 c ∧ (convert 30 9 (.slice (some a) 1 c)).run Try.prog w = .ok (.string ⟨#[b]⟩) w := by
  obtain ⟨a, len, c, rfl, rfl, -, -, hc⟩ := h.at
  obtain ⟨bk, off, rfl, h0⟩ := hc 0 (b.toNat : Int) rfl
  refine ⟨_, c, rfl, ?_⟩
  have := run_convert_bytes_back (P := Try.prog) w 30 9 5 ⟨bk, off, none⟩ c [b] Try.underlying30 Try.underlying5 Try.underlying9 (fun j hj => by
    have hj0 : j = 0 := by simp at hj; omega
    subst hj0
    rw [addr_add]; exact h0)
  simpa using this

set_option maxRecDepth 100000 in
set_option maxHeartbeats 4000000 in
theorem head_call (w : World) : Calls Try.prog 6 #[] w fun e w' => e = .returned (.bool true) ∧ Below w.heap.size w w' := by
  go_enter Try.func6, Try.ntmps6
  go_upto_region 2 with (go_at_call 7; refine (new_call _).mono ?_; rintro e w1 ⟨p, mw, ma, rfl, hnet, hb1⟩)
  have HN1 := Lib.hid (hnet.later ((Below.refl w1.heap.size w1).alloc (Nat.le_refl _) (.cells #[vi 1, vi 2] 29)))
  have HB1 := Lib.hid (hb1.alloc (by have := hb1.size; omega) (.cells #[vi 1, vi 2] 29))
  have HX1 := Lib.hid (alloc_at w1 (.cells #[vi 1, vi 2] 29))
  have hs1 := hb1.size
  have hw2 : (w1.alloc (.cells #[vi 1, vi 2] 29)).heap.size = w1.heap.size + 1 := by simp
  clear hnet hb1
  go_upto_region 3 with fail
  generalize w1.alloc (.cells #[vi 1, vi 2] 29) = w2 at *
  go_upto_region 4 with fail
  have HN3 := Lib.hid (HN1.out.later ((Below.refl w2.heap.size w2).alloc (Nat.le_refl _) (.cells #[.string ⟨#[97]⟩, .string ⟨#[98]⟩, .string ⟨#[99]⟩] 9)))
  have HB3 := Lib.hid (HB1.out.alloc (by omega) (.cells #[.string ⟨#[97]⟩, .string ⟨#[98]⟩, .string ⟨#[99]⟩] 9))
  have HX3 := Lib.hid ((Below.heap_alloc w2 (.cells #[.string ⟨#[97]⟩, .string ⟨#[98]⟩, .string ⟨#[99]⟩] 9) w1.heap.size (by omega)).trans HX1.out)
  have hy := alloc_at w2 (.cells #[.string ⟨#[97]⟩, .string ⟨#[98]⟩, .string ⟨#[99]⟩] 9)
  rw [hw2] at hy
  have HY3 := Lib.hid hy
  clear hy
  generalize w2.alloc (.cells #[.string ⟨#[97]⟩, .string ⟨#[98]⟩, .string ⟨#[99]⟩] 9) = w3 at *
  go_loopw [4, 13] (fun _ n wr => ∃ (k : Nat) (L : Ways), k ≤ 3 ∧ n = .int .i64 k ∧ NetS w.heap.size p mw ma L [] k 0 wr ∧ Hid (conW L (1, 2) = ([97, 98, 99].take k).map (fun b => [b])) ∧ Stays w3 wr ∧ Below w.heap.size w wr) (fun _ n _ => 3 - (intOf n).toNat)
  case atStart => exact ⟨0, [], by omega, rfl, HN3.out, Lib.hid rfl, Stays.refl _, HB3.out⟩
  case round =>
    obtain ⟨wk, rfl⟩ : ∃ wk : World, wk = wr := ⟨_, rfl⟩
    obtain ⟨k, L, hk, rfl, hnet, HC, hst, hb⟩ := hrel
    have HN := Lib.hid hnet
    have HS := Lib.hid hst
    have HB := Lib.hid hb
    have hwk := hb.size
    have HX := Lib.hid (hst _ _ _ HX3.out (by decide) (by decide))
    have HY := Lib.hid (hst _ _ _ HY3.out (by decide) (by decide))
    have b0 : wk.cell? ⟨w1.heap.size, 0, none⟩ = some (vi 1) := by rw [cell_of HX.out]; rfl
    have b1 : wk.cell? ⟨w1.heap.size, 1, none⟩ = some (vi 2) := by rw [cell_of HX.out]; rfl
    clear hnet hst hb
    by_cases hlt : k < 3
    · have h3 : k = 0 ∨ k = 1 ∨ k = 2 := by omega
      rcases h3 with rfl | rfl | rfl
      · have s0 : wk.cell? ⟨w1.heap.size + 1, 0, none⟩ = some (.string ⟨#[97]⟩) := by rw [cell_of HY.out]; rfl
        obtain ⟨c, w5, hcv, hrd, hb5⟩ := conv_one wk 97
        have HR5 := Lib.hid hrd
        have HN5 := Lib.hid (HN.out.later hb5)
        have HB5 := Lib.hid (HB.out.trans (hb5.mono hwk))
        have HS5 := Lib.hid (HS.out.later hb5)
        have b0' := cell_later hb5 b0
        have b1' := cell_later hb5 b1
        clear hrd hb5
        go_wp2_with (go_at_call 8; refine (send_call (base := w.heap.size) (1, 2) _ [97] _ HN5.out HB5.out.size (by omega) (by unfold i64; simp) HR5.out (by simp)).mono ?_; rintro e w6 ⟨rfl, ⟨L', hn6, hc6, _⟩, hb6, hs6⟩)
        go_roundw
        case rel => exact ⟨0 + 1, L', by omega, by go_num, by simpa using hn6, Lib.hid (by rw [hc6, HC.out]; rfl), HS5.out.trans hs6, HB5.out.trans hb6⟩
        case measure => simp [intOf]
      · have s0 : wk.cell? ⟨w1.heap.size + 1, 1, none⟩ = some (.string ⟨#[98]⟩) := by rw [cell_of HY.out]; rfl
        obtain ⟨c, w5, hcv, hrd, hb5⟩ := conv_one wk 98
        have HR5 := Lib.hid hrd
        have HN5 := Lib.hid (HN.out.later hb5)
        have HB5 := Lib.hid (HB.out.trans (hb5.mono hwk))
        have HS5 := Lib.hid (HS.out.later hb5)
        have b0' := cell_later hb5 b0
        have b1' := cell_later hb5 b1
        clear hrd hb5
        go_wp2_with (go_at_call 8; refine (send_call (base := w.heap.size) (1, 2) _ [98] _ HN5.out HB5.out.size (by omega) (by unfold i64; simp) HR5.out (by simp)).mono ?_; rintro e w6 ⟨rfl, ⟨L', hn6, hc6, _⟩, hb6, hs6⟩)
        go_roundw
        case rel => exact ⟨1 + 1, L', by omega, by go_num, by simpa using hn6, Lib.hid (by rw [hc6, HC.out]; rfl), HS5.out.trans hs6, HB5.out.trans hb6⟩
        case measure => simp [intOf]
      · have s0 : wk.cell? ⟨w1.heap.size + 1, 2, none⟩ = some (.string ⟨#[99]⟩) := by rw [cell_of HY.out]; rfl
        obtain ⟨c, w5, hcv, hrd, hb5⟩ := conv_one wk 99
        have HR5 := Lib.hid hrd
        have HN5 := Lib.hid (HN.out.later hb5)
        have HB5 := Lib.hid (HB.out.trans (hb5.mono hwk))
        have HS5 := Lib.hid (HS.out.later hb5)
        have b0' := cell_later hb5 b0
        have b1' := cell_later hb5 b1
        clear hrd hb5
        go_wp2_with (go_at_call 8; refine (send_call (base := w.heap.size) (1, 2) _ [99] _ HN5.out HB5.out.size (by omega) (by unfold i64; simp) HR5.out (by simp)).mono ?_; rintro e w6 ⟨rfl, ⟨L', hn6, hc6, _⟩, hb6, hs6⟩)
        go_roundw
        case rel => exact ⟨2 + 1, L', by omega, by go_num, by simpa using hn6, Lib.hid (by rw [hc6, HC.out]; rfl), HS5.out.trans hs6, HB5.out.trans hb6⟩
        case measure => simp [intOf]
    · obtain rfl : k = 3 := by omega
      go_upto_region 10 with (go_at_call 9; refine (Take_call (base := w.heap.size) (1, 2) 1 [98] _ HN.out hwk (by omega) (by unfold i64; simp) (by rw [HC.out]; rfl) rfl).mono ?_; rintro e w5 ⟨v1, rfl, hm1, ⟨L1, hn1, hc1, _⟩, hb5, hs5⟩)
      have HN1 := Lib.hid (show NetS w.heap.size p mw ma L1 [] 2 0 w5 by simpa using hn1)
      have HC1 := Lib.hid (show conW L1 (1, 2) = [[97], [99]] by rw [hc1, HC.out]; rfl)
      have HX5 := Lib.hid (hs5 _ _ _ HX.out (by decide) (by decide))
      have HM1 := Lib.hid hm1
      have HB5 := Lib.hid (HB.out.trans hb5)
      have hw5 := hb5.size
      clear hn1 hc1 hm1 hb5 hs5 b0 b1
      have b0 : w5.cell? ⟨w1.heap.size, 0, none⟩ = some (vi 1) := by rw [cell_of HX5.out]; rfl
      have b1 : w5.cell? ⟨w1.heap.size, 1, none⟩ = some (vi 2) := by rw [cell_of HX5.out]; rfl
      go_upto_region 11 with (go_at_call 9; refine (Take_call (base := w.heap.size) (1, 2) 1 [99] _ HN1.out (by omega) (by omega) (by unfold i64; simp) (by rw [HC1.out]; rfl) rfl).mono ?_; rintro e w6 ⟨v2, rfl, hm2, ⟨L2, hn2, _, _⟩, hb6, hs6⟩)
      have HN2 := Lib.hid (show NetS w.heap.size p mw ma L2 [] 1 0 w6 by simpa using hn2)
      have HB6 := Lib.hid (HB5.out.trans hb6)
      obtain ⟨a1, c1, rfl, hk1⟩ := back_one (w := w6) (v := v1) (b := 98) (HM1.out.stays hs6).rd
      obtain ⟨a2, c2, rfl, hk2⟩ := back_one (w := w6) (v := v2) (b := 99) hm2.rd
      clear hm2 hn2 hb6 hs6 b0 b1
      go_wp2_with (go_at_call 10; refine (flying_call _ HN2.out.mem).mono ?_; rintro e w7 ⟨rfl, hb7⟩)
      go_ret
      exact ⟨by rfl, HB6.out.trans (hb7.mono HB6.out.size)⟩
end Go.Proofs.Ythpdenmbcjngkaa
