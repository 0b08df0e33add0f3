/- The law ChainsFacts: its walk. -/
import Derived.Test.YtafboehdihokhaaWith
import Derived.Test.YtafboehdihokhaaHead
import Derived.Test.YtafboehdihokhaaMade
import Derived.Test.YtafboehdihokhaaRdEv
namespace Go.Proofs.Ytafboehdihokhaa.chainsFacts
open Go.RowKit Go.Maps

theorem next_open {ts : List GTxn} {L : FaL} {c : GChoice} (h : nextM ts L = some c) : getM L c = none ∧ OkCh ts.length c := by
  unfold nextM at h
  have h1 := List.find?_some h
  have h2 := List.mem_of_find?_eq_some h
  refine ⟨?_, choicesM_ok h2⟩
  unfold openC at h1
  cases hg : getM L c with
  | none => rfl
  | some b => rw [hg] at h1; simp at h1

set_option maxRecDepth 100000 in
set_option maxHeartbeats 8000000 in
theorem walk (v u : Value) (es : List GEvent) (picks : List Int) (w : World) (hv : RdEvents w v es) (hu : RdInts w u picks) :
    Calls Try.prog 4 #[v, u] w fun e w' => e = .returned (.bool true) ∧ Below w.heap.size w w' := by
  have HV := Lib.hid hv
  have HU := Lib.hid hu
  clear hv hu
  go_enter Try.func4, Try.ntmps4
  go_upto_region 4 with (first
    | (go_at_call 8; refine (head_call _).mono ?_; rintro e w1 ⟨rfl, hb1⟩; have HB1 := Lib.hid hb1; have HV1 := Lib.hid (HV.out.later hb1); clear hb1)
    | (go_at_call 9; refine (made_call _ es _ HV1.out).mono ?_; rintro e w2 ⟨v2, b, rfl, hg, hb2⟩))
  have HB2 := Lib.hid (HB1.out.trans (hb2.mono HB1.out.size))
  clear hb2
  cases b with
  | false =>
    go_wp2_with fail
    go_ret
    exact ⟨by rfl, HB2.out⟩
  | true =>
    obtain ⟨ts, hr, hgood⟩ := hg rfl
    have HR := Lib.hid hr
    have HOK := Lib.hid hgood.ok
    have HUN := Lib.hid hgood.uniq
    have htl : ts.length ≤ 60 := hgood.len
    have hcl := choicesM_le ts (by omega)
    obtain ⟨ta, tl, tc, rfl, rfl, htm, -⟩ := hr.at
    clear hg hr hgood
    go_upto_region 7 with (go_at_call 13; refine (some_call _ _ ts picks _ HR.out HOK.out (by omega) HUN.out (HU.out.later HB2.out)).mono ?_; rintro e w3 ⟨L, m, sv, rfl, hm0, hM, hS, hkeys, hll, hb3⟩)
    have HM := Lib.hid hM
    have HS := Lib.hid hS
    have HB3 := Lib.hid (HB2.out.trans (hb3.mono HB2.out.size))
    have HR3 := Lib.hid (HR.out.later hb3)
    have hlen3 := len_fact hM
    have hml := hM.lt
    have HKN := Lib.hid hkeys
    have hLl : L.length ≤ 4294967296 := by omega
    clear hM hS hkeys hb3
    go_wp2_with fail
    go_loopw [10, 11, 12, 13, 42] (fun _ _ _ _ n wr => ∃ k : Nat, k ≤ ts.length ∧ n = .int .i64 k ∧ Below w3.heap.size w3 wr) (fun _ _ _ _ n _ => ts.length - (intOf n).toNat)
    case atStart => exact ⟨0, Nat.zero_le _, rfl, Below.refl _ _⟩
    case round =>
      obtain ⟨wk, rfl⟩ : ∃ wk : World, wk = wr := ⟨_, rfl⟩
      obtain ⟨k, hk, rfl, hb⟩ := hrel
      have HBk := Lib.hid hb
      have HMk := Lib.hid (HM.out.below hb hml)
      have HSk := Lib.hid (HS.out.later hb)
      have HRk := Lib.hid (HR3.out.later hb)
      have hwk := hb.size
      clear hb
      by_cases hlt : k < ts.length
      · go_upto_region 12 with (go_at_call 14; refine (Is_call _ ts m L k _ HRk.out HOK.out (by omega) HMk.out hlt).mono ?_; rintro e w4 ⟨rfl, hb4⟩)
        have HB4 := Lib.hid hb4
        have HR4 := Lib.hid (HRk.out.later hb4)
        have HS4 := Lib.hid (HSk.out.later hb4)
        clear hb4
        go_upto_region 13 with (go_at_call 15; refine (refIs_call _ _ ts L k _ HR4.out HOK.out HS4.out hlt).mono ?_; rintro e w5 ⟨rfl, hb5⟩)
        have HB5 := Lib.hid (HBk.out.trans ((HB4.out.trans (hb5.mono HB4.out.size)).mono HBk.out.size))
        have e1 := isI_one HUN.out L k
        have e2 := isI_some HUN.out L k
        clear hb5
        generalize isI ts L k = x at *
        cases hA : (isM ts L k).1 with
        | false =>
          rw [hA] at e1
          cases hC : (isM ts L k).2 with
          | false =>
            rw [hC] at e2
            have h0 : ¬ (0 ≤ x) := by simpa using e2
            clear hA hC e2
            go_wp2_with fail
            go_roundw
            case rel => exact ⟨k + 1, by omega, by go_num, HB5.out⟩
            case measure => simp [intOf]; omega
          | true =>
            rw [hC] at e2
            have h0 : 0 ≤ x := by simpa using e2
            clear hA hC e2
            go_wp2_with fail
            go_roundw
            case rel => exact ⟨k + 1, by omega, by go_num, HB5.out⟩
            case measure => simp [intOf]; omega
        | true =>
          rw [hA] at e1
          cases hC : (isM ts L k).2 with
          | false =>
            rw [hC] at e2
            have h0 : ¬ (0 ≤ x) := by simpa using e2
            clear hA hC e2
            go_wp2_with fail
            go_roundw
            case rel => exact ⟨k + 1, by omega, by go_num, HB5.out⟩
            case measure => simp [intOf]; omega
          | true =>
            rw [hC] at e2
            have h0 : 0 ≤ x := by simpa using e2
            clear hA hC e2
            go_wp2_with fail
            go_roundw
            case rel => exact ⟨k + 1, by omega, by go_num, HB5.out⟩
            case measure => simp [intOf]; omega
      · obtain rfl : k = ts.length := by omega
        cases hn : nextM ts L with
        | none =>
          obtain ⟨c, hcz⟩ : ∃ c, c = zeroC := ⟨_, rfl⟩
          have HCV := Lib.hid (show ∀ (W : World) (e : Ending) (W' : World), NextQ (nextM ts L) W e W' → e = .returned (.tuple #[chK c, .bool false]) ∧ Below W.heap.size W W' from fun W e W' h => by rw [hn] at h; rw [hcz]; exact h)
          clear hn hcz
          go_upto_region 17 with (go_at_call 16; refine (next_call _ ts m L _ HRk.out HOK.out (by omega) HMk.out).mono ?_; intro e w4 hq; obtain ⟨rfl, hb4⟩ := HCV.out _ _ _ hq; clear hq)
          have HB4 := Lib.hid (HB3.out.trans ((HBk.out.trans (hb4.mono HBk.out.size)).mono HB3.out.size))
          have HR4 := Lib.hid (HRk.out.later hb4)
          have HS4 := Lib.hid (HSk.out.later hb4)
          have HM4 := Lib.hid (HMk.out.below hb4 HMk.out.lt)
          clear hb4
          have HBa := Lib.hid ((Below.refl w4.heap.size w4).alloc (Nat.le_refl _) (.cells #[vi c.kind, vi c.key, vi c.a, vi c.b] 32))
          have HXa := Lib.hid (alloc_at w4 (.cells #[vi c.kind, vi c.key, vi c.a, vi c.b] 32))
          have hwa : (w4.alloc (.cells #[vi c.kind, vi c.key, vi c.a, vi c.b] 32)).heap.size = w4.heap.size + 1 := by simp
          generalize w4.alloc (.cells #[vi c.kind, vi c.key, vi c.a, vi c.b] 32) = wa at *
          go_upto_region 18 with (go_at_call 17; refine (refNext_call _ _ ts L _ (HR4.out.later HBa.out) HOK.out (by omega) HUN.out (HS4.out.later HBa.out)).mono ?_; intro e w5 hq; obtain ⟨rfl, hb5⟩ := HCV.out _ _ _ hq; clear hq)
          have HB5 := Lib.hid (HBa.out.trans (hb5.mono HBa.out.size))
          have hw5 := hb5.size
          have HXa5 := Lib.hid ((hb5.block w4.heap.size (by omega)).trans HXa.out)
          have HB6 := Lib.hid (HB5.out.alloc (by omega) (.cells #[vi c.kind, vi c.key, vi c.a, vi c.b] 33))
          have HXb := Lib.hid (alloc_at w5 (.cells #[vi c.kind, vi c.key, vi c.a, vi c.b] 33))
          have HXa6 := Lib.hid ((Below.heap_alloc w5 (.cells #[vi c.kind, vi c.key, vi c.a, vi c.b] 33) w4.heap.size (by omega)).trans HXa5.out)
          have hw6 : (w5.alloc (.cells #[vi c.kind, vi c.key, vi c.a, vi c.b] 33)).heap.size = w5.heap.size + 1 := by simp
          clear hb5
          generalize w5.alloc (.cells #[vi c.kind, vi c.key, vi c.a, vi c.b] 33) = w6 at *
          have p0 : w6.cell? ⟨w4.heap.size, 0, none⟩ = some (vi c.kind) := by rw [cell_of HXa6.out]; rfl
          have p1 : w6.cell? ⟨w4.heap.size, 1, none⟩ = some (vi c.key) := by rw [cell_of HXa6.out]; rfl
          have p2 : w6.cell? ⟨w4.heap.size, 2, none⟩ = some (vi c.a) := by rw [cell_of HXa6.out]; rfl
          have p3 : w6.cell? ⟨w4.heap.size, 3, none⟩ = some (vi c.b) := by rw [cell_of HXa6.out]; rfl
          have r0 : w6.cell? ⟨w5.heap.size, 0, none⟩ = some (vi c.kind) := by rw [cell_of HXb.out]; rfl
          have r1 : w6.cell? ⟨w5.heap.size, 1, none⟩ = some (vi c.key) := by rw [cell_of HXb.out]; rfl
          have r2 : w6.cell? ⟨w5.heap.size, 2, none⟩ = some (vi c.a) := by rw [cell_of HXb.out]; rfl
          have r3 : w6.cell? ⟨w5.heap.size, 3, none⟩ = some (vi c.b) := by rw [cell_of HXb.out]; rfl
          go_wp2_with fail
          go_ret
          exact ⟨by rfl, HB4.out.trans (HB6.out.mono HB4.out.size)⟩
        | some c =>
          have HN := Lib.hid hn
          have HCV := Lib.hid (show ∀ (W : World) (e : Ending) (W' : World), NextQ (nextM ts L) W e W' → e = .returned (.tuple #[chK c, .bool true]) ∧ Below W.heap.size W W' from fun W e W' h => by rw [hn] at h; exact h)
          clear hn
          go_upto_region 17 with (go_at_call 16; refine (next_call _ ts m L _ HRk.out HOK.out (by omega) HMk.out).mono ?_; intro e w4 hq; obtain ⟨rfl, hb4⟩ := HCV.out _ _ _ hq; clear hq)
          have HB4 := Lib.hid (HB3.out.trans ((HBk.out.trans (hb4.mono HBk.out.size)).mono HB3.out.size))
          have HR4 := Lib.hid (HRk.out.later hb4)
          have HS4 := Lib.hid (HSk.out.later hb4)
          have HM4 := Lib.hid (HMk.out.below hb4 HMk.out.lt)
          clear hb4
          have HBa := Lib.hid ((Below.refl w4.heap.size w4).alloc (Nat.le_refl _) (.cells #[vi c.kind, vi c.key, vi c.a, vi c.b] 32))
          have HXa := Lib.hid (alloc_at w4 (.cells #[vi c.kind, vi c.key, vi c.a, vi c.b] 32))
          have hwa : (w4.alloc (.cells #[vi c.kind, vi c.key, vi c.a, vi c.b] 32)).heap.size = w4.heap.size + 1 := by simp
          generalize w4.alloc (.cells #[vi c.kind, vi c.key, vi c.a, vi c.b] 32) = wa at *
          go_upto_region 18 with (go_at_call 17; refine (refNext_call _ _ ts L _ (HR4.out.later HBa.out) HOK.out (by omega) HUN.out (HS4.out.later HBa.out)).mono ?_; intro e w5 hq; obtain ⟨rfl, hb5⟩ := HCV.out _ _ _ hq; clear hq)
          have HB5 := Lib.hid (HBa.out.trans (hb5.mono HBa.out.size))
          have hw5 := hb5.size
          have HXa5 := Lib.hid ((hb5.block w4.heap.size (by omega)).trans HXa.out)
          have HB6 := Lib.hid (HB5.out.alloc (by omega) (.cells #[vi c.kind, vi c.key, vi c.a, vi c.b] 33))
          have HXb := Lib.hid (alloc_at w5 (.cells #[vi c.kind, vi c.key, vi c.a, vi c.b] 33))
          have HXa6 := Lib.hid ((Below.heap_alloc w5 (.cells #[vi c.kind, vi c.key, vi c.a, vi c.b] 33) w4.heap.size (by omega)).trans HXa5.out)
          have hw6 : (w5.alloc (.cells #[vi c.kind, vi c.key, vi c.a, vi c.b] 33)).heap.size = w5.heap.size + 1 := by simp
          clear hb5
          generalize w5.alloc (.cells #[vi c.kind, vi c.key, vi c.a, vi c.b] 33) = w6 at *
          have p0 : w6.cell? ⟨w4.heap.size, 0, none⟩ = some (vi c.kind) := by rw [cell_of HXa6.out]; rfl
          have p1 : w6.cell? ⟨w4.heap.size, 1, none⟩ = some (vi c.key) := by rw [cell_of HXa6.out]; rfl
          have p2 : w6.cell? ⟨w4.heap.size, 2, none⟩ = some (vi c.a) := by rw [cell_of HXa6.out]; rfl
          have p3 : w6.cell? ⟨w4.heap.size, 3, none⟩ = some (vi c.b) := by rw [cell_of HXa6.out]; rfl
          have r0 : w6.cell? ⟨w5.heap.size, 0, none⟩ = some (vi c.kind) := by rw [cell_of HXb.out]; rfl
          have r1 : w6.cell? ⟨w5.heap.size, 1, none⟩ = some (vi c.key) := by rw [cell_of HXb.out]; rfl
          have r2 : w6.cell? ⟨w5.heap.size, 2, none⟩ = some (vi c.a) := by rw [cell_of HXb.out]; rfl
          have r3 : w6.cell? ⟨w5.heap.size, 3, none⟩ = some (vi c.b) := by rw [cell_of HXb.out]; rfl
          obtain ⟨hcno, hco⟩ := next_open HN.out
          have HCN := Lib.hid hcno
          have HSM := Lib.hid (hco.small (by omega))
          have HR6 := Lib.hid (HR4.out.later HB6.out)
          have HM6 := Lib.hid (HM4.out.below HB6.out HM4.out.lt)
          have HP0 := Lib.hid p0
          have HP1 := Lib.hid p1
          have HP2 := Lib.hid p2
          have HP3 := Lib.hid p3
          clear hcno hco
          go_upto_region 23 with (go_at_call 18; refine (with_call m L c true _ HM6.out HSM.out HCN.out).mono ?_; rintro e w7 ⟨H, mh, rfl, hmh, hMH, hget, hHl, hb7⟩)
          have HB7 := Lib.hid (HB6.out.trans (hb7.mono HB6.out.size))
          have hw7 := hb7.size
          have HR7 := Lib.hid (HR6.out.later hb7)
          have HM7 := Lib.hid (HM6.out.below hb7 HM6.out.lt)
          have HXa7 := Lib.hid ((hb7.block w4.heap.size (by omega)).trans HXa6.out)
          have HH7 := Lib.hid hMH
          have HGT := Lib.hid ((hget c).trans (if_pos rfl))
          have HHL := Lib.hid (show (H.length : Int) = L.length + 1 by omega)
          clear p0 p1 p2 p3 r0 r1 r2 r3 hb7 hMH hget hHl
          cases hn2 : nextM ts H with
          | none =>
            obtain ⟨c2, hcz⟩ : ∃ c2, c2 = zeroC := ⟨_, rfl⟩
            have HCW := Lib.hid (show ∀ (W : World) (e : Ending) (W' : World), NextQ (nextM ts H) W e W' → e = .returned (.tuple #[chK c2, .bool false]) ∧ Below W.heap.size W W' from fun W e W' h => by rw [hn2] at h; rw [hcz]; exact h)
            clear hn2 hcz
            go_upto_region 24 with (go_at_call 16; refine (next_call _ ts mh H _ HR7.out HOK.out (by omega) HH7.out).mono ?_; intro e w8 hq; obtain ⟨rfl, hb8⟩ := HCW.out _ _ _ hq; clear hq)
            have HB8 := Lib.hid (HB7.out.trans (hb8.mono HB7.out.size))
            have hw8 := hb8.size
            have HXa9 := Lib.hid ((Below.heap_alloc w8 (.cells #[vi c2.kind, vi c2.key, vi c2.a, vi c2.b] 32) w4.heap.size (by omega)).trans ((hb8.block w4.heap.size (by omega)).trans HXa7.out))
            have HX9 := Lib.hid (alloc_at w8 (.cells #[vi c2.kind, vi c2.key, vi c2.a, vi c2.b] 32))
            have HM8 := Lib.hid (HM7.out.below hb8 HM7.out.lt)
            have HH8 := Lib.hid (HH7.out.below hb8 HH7.out.lt)
            have HM9 := Lib.hid (HM8.out.frame (Below.heap_alloc w8 (.cells #[vi c2.kind, vi c2.key, vi c2.a, vi c2.b] 32) _ HM8.out.lt))
            have HH9 := Lib.hid (HH8.out.frame (Below.heap_alloc w8 (.cells #[vi c2.kind, vi c2.key, vi c2.a, vi c2.b] 32) _ HH8.out.lt))
            have HB9 := Lib.hid (HB8.out.alloc (by omega) (.cells #[vi c2.kind, vi c2.key, vi c2.a, vi c2.b] 32))
            clear hb8
            generalize w8.alloc (.cells #[vi c2.kind, vi c2.key, vi c2.a, vi c2.b] 32) = w9 at *
            have p0 : w9.cell? ⟨w4.heap.size, 0, none⟩ = some (vi c.kind) := by rw [cell_of HXa9.out]; rfl
            have p1 : w9.cell? ⟨w4.heap.size, 1, none⟩ = some (vi c.key) := by rw [cell_of HXa9.out]; rfl
            have p2 : w9.cell? ⟨w4.heap.size, 2, none⟩ = some (vi c.a) := by rw [cell_of HXa9.out]; rfl
            have p3 : w9.cell? ⟨w4.heap.size, 3, none⟩ = some (vi c.b) := by rw [cell_of HXa9.out]; rfl
            have r0 : w9.cell? ⟨w8.heap.size, 0, none⟩ = some (vi c2.kind) := by rw [cell_of HX9.out]; rfl
            have r1 : w9.cell? ⟨w8.heap.size, 1, none⟩ = some (vi c2.key) := by rw [cell_of HX9.out]; rfl
            have r2 : w9.cell? ⟨w8.heap.size, 2, none⟩ = some (vi c2.a) := by rw [cell_of HX9.out]; rfl
            have r3 : w9.cell? ⟨w8.heap.size, 3, none⟩ = some (vi c2.b) := by rw [cell_of HX9.out]; rfl
            have hl1 := (lookup_fact HM9.out HSM.out).1
            rw [HCN.out] at hl1
            simp only [Option.getD_none, Option.isSome_none] at hl1
            have hl2 := (lookup_fact HH9.out HSM.out).2
            rw [HGT.out] at hl2
            simp only [Option.getD_some] at hl2
            have hlL := len_fact HM9.out
            have hlH := len_fact HH9.out
            rw [HHL.out] at hlH
            go_wp2_with fail
            go_ret
            exact ⟨by rfl, HB4.out.trans (HB9.out.mono HB4.out.size)⟩
          | some c2 =>
            have HN2 := Lib.hid hn2
            have HCW := Lib.hid (show ∀ (W : World) (e : Ending) (W' : World), NextQ (nextM ts H) W e W' → e = .returned (.tuple #[chK c2, .bool true]) ∧ Below W.heap.size W W' from fun W e W' h => by rw [hn2] at h; exact h)
            clear hn2
            have HNE := Lib.hid (show c2 ≠ c from fun e => by have := (next_open HN2.out).1; rw [e, HGT.out] at this; cases this)
            go_upto_region 24 with (go_at_call 16; refine (next_call _ ts mh H _ HR7.out HOK.out (by omega) HH7.out).mono ?_; intro e w8 hq; obtain ⟨rfl, hb8⟩ := HCW.out _ _ _ hq; clear hq)
            have HB8 := Lib.hid (HB7.out.trans (hb8.mono HB7.out.size))
            have hw8 := hb8.size
            have HXa9 := Lib.hid ((Below.heap_alloc w8 (.cells #[vi c2.kind, vi c2.key, vi c2.a, vi c2.b] 32) w4.heap.size (by omega)).trans ((hb8.block w4.heap.size (by omega)).trans HXa7.out))
            have HX9 := Lib.hid (alloc_at w8 (.cells #[vi c2.kind, vi c2.key, vi c2.a, vi c2.b] 32))
            have HM8 := Lib.hid (HM7.out.below hb8 HM7.out.lt)
            have HH8 := Lib.hid (HH7.out.below hb8 HH7.out.lt)
            have HM9 := Lib.hid (HM8.out.frame (Below.heap_alloc w8 (.cells #[vi c2.kind, vi c2.key, vi c2.a, vi c2.b] 32) _ HM8.out.lt))
            have HH9 := Lib.hid (HH8.out.frame (Below.heap_alloc w8 (.cells #[vi c2.kind, vi c2.key, vi c2.a, vi c2.b] 32) _ HH8.out.lt))
            have HB9 := Lib.hid (HB8.out.alloc (by omega) (.cells #[vi c2.kind, vi c2.key, vi c2.a, vi c2.b] 32))
            clear hb8
            generalize w8.alloc (.cells #[vi c2.kind, vi c2.key, vi c2.a, vi c2.b] 32) = w9 at *
            have p0 : w9.cell? ⟨w4.heap.size, 0, none⟩ = some (vi c.kind) := by rw [cell_of HXa9.out]; rfl
            have p1 : w9.cell? ⟨w4.heap.size, 1, none⟩ = some (vi c.key) := by rw [cell_of HXa9.out]; rfl
            have p2 : w9.cell? ⟨w4.heap.size, 2, none⟩ = some (vi c.a) := by rw [cell_of HXa9.out]; rfl
            have p3 : w9.cell? ⟨w4.heap.size, 3, none⟩ = some (vi c.b) := by rw [cell_of HXa9.out]; rfl
            have r0 : w9.cell? ⟨w8.heap.size, 0, none⟩ = some (vi c2.kind) := by rw [cell_of HX9.out]; rfl
            have r1 : w9.cell? ⟨w8.heap.size, 1, none⟩ = some (vi c2.key) := by rw [cell_of HX9.out]; rfl
            have r2 : w9.cell? ⟨w8.heap.size, 2, none⟩ = some (vi c2.a) := by rw [cell_of HX9.out]; rfl
            have r3 : w9.cell? ⟨w8.heap.size, 3, none⟩ = some (vi c2.b) := by rw [cell_of HX9.out]; rfl
            have hl1 := (lookup_fact HM9.out HSM.out).1
            rw [HCN.out] at hl1
            simp only [Option.getD_none, Option.isSome_none] at hl1
            have hl2 := (lookup_fact HH9.out HSM.out).2
            rw [HGT.out] at hl2
            simp only [Option.getD_some] at hl2
            have hlL := len_fact HM9.out
            have hlH := len_fact HH9.out
            rw [HHL.out] at hlH
            by_cases g0 : c2.kind = c.kind
            case neg =>
              have f0 : (c2.kind == c.kind) = false := by simp [g0]
              clear g0
              go_wp2_with fail
              go_ret
              exact ⟨by rfl, HB4.out.trans (HB9.out.mono HB4.out.size)⟩
            have f0 : (c2.kind == c.kind) = true := by simp [g0]
            have G0 := Lib.hid g0
            clear g0
            by_cases g1 : c2.key = c.key
            case neg =>
              have f1 : (c2.key == c.key) = false := by simp [g1]
              clear g1
              go_wp2_with fail
              go_ret
              exact ⟨by rfl, HB4.out.trans (HB9.out.mono HB4.out.size)⟩
            have f1 : (c2.key == c.key) = true := by simp [g1]
            have G1 := Lib.hid g1
            clear g1
            by_cases g2 : c2.a = c.a
            case neg =>
              have f2 : (c2.a == c.a) = false := by simp [g2]
              clear g2
              go_wp2_with fail
              go_ret
              exact ⟨by rfl, HB4.out.trans (HB9.out.mono HB4.out.size)⟩
            have f2 : (c2.a == c.a) = true := by simp [g2]
            have G2 := Lib.hid g2
            clear g2
            by_cases g3 : c2.b = c.b
            case neg =>
              have f3 : (c2.b == c.b) = false := by simp [g3]
              clear g3
              go_wp2_with fail
              go_ret
              exact ⟨by rfl, HB4.out.trans (HB9.out.mono HB4.out.size)⟩
            have f3 : (c2.b == c.b) = true := by simp [g3]
            have G3 := Lib.hid g3
            clear g3
            exact absurd (GChoice.ext' G0.out G1.out G2.out G3.out) HNE.out
end Go.Proofs.Ytafboehdihokhaa.chainsFacts
