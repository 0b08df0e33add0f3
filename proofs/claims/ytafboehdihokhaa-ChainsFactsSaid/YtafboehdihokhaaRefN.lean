/- crucibleref09.Next. -/
import Derived.Test.YtafboehdihokhaaNext
namespace Go.Proofs.Ytafboehdihokhaa
open Go.RowKit Go.Maps

theorem getI_ge {G : FaL} {c : GChoice} {b : Bool} (h : getM G c = some b) : 0 ≤ getI G c := by unfold getI; rw [h]; cases b <;> decide
theorem getI_no {G : FaL} {c : GChoice} (h : getM G c = none) : getI G c = -1 := by unfold getI; rw [h]

set_option maxRecDepth 100000 in
set_option maxHeartbeats 4000000 in
theorem refNext_call (v g : Value) (ts : List GTxn) (L : FaL) (w : World) (hv : RdTxns w v ts) (hok : OkTxns ts) (htl : ts.length ≤ 4096) (hu : Uniq ts) (hg : RdSaid w g L) :
    Calls Try.prog 17 #[v, g] w (NextQ (nextM ts L) w) := by
  have HB0 := Lib.hid ((Below.refl w.heap.size w).alloc (Nat.le_refl _) (.cells #[vi 0, vi 0, vi 0, vi 0] 33))
  have HV := Lib.hid (hv.later HB0.out)
  have HOK := Lib.hid hok
  have HU := Lib.hid hu
  have HG := Lib.hid (hg.later HB0.out)
  have HX0 := Lib.hid (alloc_at w (.cells #[vi 0, vi 0, vi 0, vi 0] 33))
  have hw0 : (w.alloc (.cells #[vi 0, vi 0, vi 0, vi 0] 33)).heap.size = w.heap.size + 1 := by simp
  have HE := Lib.hid (choices_eq hu).symm
  clear hv hok hg hu
  go_enter Try.func17, Try.ntmps17
  go_upto_region 1 with fail
  generalize w.alloc (.cells #[vi 0, vi 0, vi 0, vi 0] 33) = w0 at *
  go_wp2_with (go_at_call 11; refine (refChoices_call _ ts _ HV.out HOK.out htl).mono ?_; rw [HE.out]; rintro e w2 ⟨v2, rfl, ho2, hb2⟩; have HC2 := Lib.hid ho2.rd; have HV2 := Lib.hid (HV.out.later hb2); have HG2 := Lib.hid (HG.out.later hb2); have HB2 := Lib.hid hb2; obtain ⟨a2, len2, cap2, rfl, rfl, hm2, -⟩ := HC2.out.at; clear hb2 ho2)
  have HCO := Lib.hid (fun c (h : c ∈ choicesM ts) => choicesM_ok h)
  have HNX := Lib.hid (show nextM ts L = (choicesM ts).find? (openC ts L) from rfl)
  generalize choicesM ts = C at *
  have hw2 := HB2.out.size
  have HX2 := Lib.hid ((HB2.out.block w.heap.size (by omega)).trans HX0.out)
  go_loopw [7, 11] (fun _ n wr => ∃ k : Nat, k ≤ C.length ∧ n = .int .i64 k ∧ Hid (ShutK (openC ts L) C k) ∧ Below w2.heap.size w2 wr) (fun _ n _ => C.length - (intOf n).toNat)
  case atStart => exact ⟨0, Nat.zero_le _, rfl, Lib.hid (fun j d h => absurd h (Nat.not_lt_zero _)), Below.refl _ _⟩
  case round =>
    obtain ⟨wk, rfl⟩ : ∃ wk : World, wk = wr := ⟨_, rfl⟩
    obtain ⟨k, hk, rfl, HN, hb⟩ := hrel
    have HBk := Lib.hid hb
    have hwk := hb.size
    have HXk := Lib.hid ((hb.block w.heap.size (by omega)).trans HX2.out)
    clear hb
    by_cases hlt : k < C.length
    · obtain ⟨c, hc⟩ := some_at hlt
      have hco := HCO.out c (List.mem_of_getElem? hc)
      obtain ⟨kd, ky, ca, cb⟩ := c
      obtain ⟨an, rfl⟩ := Int.eq_ofNat_of_zero_le hco.a.1
      obtain ⟨bn, rfl⟩ := Int.eq_ofNat_of_zero_le hco.b.1
      have han : an < ts.length := by have := hco.a.2; simpa using this
      have hbn : bn < ts.length := by have := hco.b.2; simpa using this
      have hkd : kd = 1 ∨ kd = 2 := by rcases hco.kind with h | h; exact .inl h.1; exact .inr h.1
      obtain ⟨_, _, _, e5, -, -, hcl⟩ := HC2.out.at
      cases e5
      obtain ⟨b, off, rfl, k0', k1', k2', k3'⟩ := hcl k _ hc
      have k0 := cell_later HBk.out k0'
      have k1 := cell_later HBk.out k1'
      have k2 := cell_later HBk.out k2'
      have k3 := cell_later HBk.out k3'
      have hkI : (k : Int) < (C.length : Int) := by omega
      have HP := Lib.hid hc
      have HOC := Lib.hid (show openC ts L ⟨kd, ky, an, bn⟩ = ((getM L ⟨kd, ky, an, bn⟩).isNone && (kd != 2 || (isM ts L an).1 && (isM ts L bn).1)) from rfl)
      have HBo := Lib.hid (HBk.out.alloc hwk (.cells #[vi kd, vi ky, vi an, vi bn] 33))
      have HXo := Lib.hid (alloc_at wk (.cells #[vi kd, vi ky, vi an, vi bn] 33))
      have hwo : (wk.alloc (.cells #[vi kd, vi ky, vi an, vi bn] 33)).heap.size = wk.heap.size + 1 := by simp
      have HXr := Lib.hid ((Below.heap_alloc wk (.cells #[vi kd, vi ky, vi an, vi bn] 33) w.heap.size (by omega)).trans HXk.out)
      clear hcl hc hco k0' k1' k2' k3'
      go_upto_region 4 with fail
      clear k0 k1 k2 k3
      generalize wk.alloc (.cells #[vi kd, vi ky, vi an, vi bn] 33) = wo at *
      have q0 : wo.cell? ⟨wk.heap.size, 0, none⟩ = some (vi kd) := by rw [cell_of HXo.out]; rfl
      have q1 : wo.cell? ⟨wk.heap.size, 1, none⟩ = some (vi ky) := by rw [cell_of HXo.out]; rfl
      have q2 : wo.cell? ⟨wk.heap.size, 2, none⟩ = some (vi an) := by rw [cell_of HXo.out]; rfl
      have q3 : wo.cell? ⟨wk.heap.size, 3, none⟩ = some (vi bn) := by rw [cell_of HXo.out]; rfl
      have HGo := Lib.hid (HG2.out.later HBo.out)
      have HVo := Lib.hid (HV2.out.later HBo.out)
      have HQ0 := Lib.hid q0
      have HQ1 := Lib.hid q1
      have HQ2 := Lib.hid q2
      have HQ3 := Lib.hid q3
      cases hg : getM L ⟨kd, ky, an, bn⟩ with
      | some bb =>
        have hge := getI_ge hg
        rw [hg] at HOC
        clear hg
        go_wp2_with (go_at_call 33; refine (get_call _ L ⟨kd, ky, an, bn⟩ _ HGo.out).mono ?_; rintro e w4 ⟨rfl, hb4⟩)
        go_roundw
        case rel => exact ⟨k + 1, by omega, by go_num, Lib.hid (HN.out.next HP.out HOC.out), HBo.out.trans (hb4.mono HBo.out.size)⟩
        case measure => simp [intOf]; omega
      | none =>
        have HGE := Lib.hid (getI_no hg)
        rw [hg] at HOC
        clear hg
        go_upto_region 5 with (go_at_call 33; refine (get_call _ L ⟨kd, ky, an, bn⟩ _ HGo.out).mono ?_; rw [HGE.out]; rintro e w4 ⟨rfl, hb4⟩)
        have HB4 := Lib.hid hb4
        have HX4 := Lib.hid ((hb4.block w.heap.size (by omega)).trans HXr.out)
        replace q0 := cell_later hb4 HQ0.out
        replace q1 := cell_later hb4 HQ1.out
        replace q2 := cell_later hb4 HQ2.out
        replace q3 := cell_later hb4 HQ3.out
        have R0 := Lib.hid q0
        have R1 := Lib.hid q1
        have R2 := Lib.hid q2
        have R3 := Lib.hid q3
        have HG4 := Lib.hid (HGo.out.later hb4)
        have HV4 := Lib.hid (HVo.out.later hb4)
        have hw4 := hb4.size
        clear hb4
        rcases hkd with rfl | rfl
        · have he := Lib.hid (HNX.out.trans (find_first HP.out HOC.out HN.out))
          have HBZ := Lib.hid (HBo.out.trans (HB4.out.mono HBo.out.size))
          have r0 : w4.cell? ⟨w.heap.size, 0, none⟩ = some (vi 0) := by rw [cell_of HX4.out]; rfl
          have r1 : w4.cell? ⟨w.heap.size, 1, none⟩ = some (vi 0) := by rw [cell_of HX4.out]; rfl
          have r2 : w4.cell? ⟨w.heap.size, 2, none⟩ = some (vi 0) := by rw [cell_of HX4.out]; rfl
          have r3 : w4.cell? ⟨w.heap.size, 3, none⟩ = some (vi 0) := by rw [cell_of HX4.out]; rfl
          have fz := fun j => free_of HX4.out j
          go_wp2_with fail
          refine bodyPost_ret (v := .tuple #[chK ⟨1, ky, an, bn⟩, .bool true]) (by simp [results, Try.results17, go_sem, r0, r1, r2, r3]) rfl ⟨by rw [he.out]; rfl, ?_⟩
          exact ((((HB0.out.trans ((HB2.out.trans (HBZ.out.mono HB2.out.size)).mono HB0.out.size)).setCell (Nat.le_refl _) _).setCell (Nat.le_refl _) _).setCell (Nat.le_refl _) _).setCell (Nat.le_refl _) _
        · go_cut [37] (fun r wx => r = .bool ((isM ts L an).1 && (isM ts L bn).1) ∧ Below w4.heap.size w4 wx)
          case first =>
            have e1 := isI_one HU.out L an
            have e2 := isI_one HU.out L bn
            cases hA : (isM ts L an).1 with
            | false =>
              rw [hA] at e1
              have HA := Lib.hid hA
              clear hA e2
              go_wp2_with (go_at_call 15; refine (refIs_call _ _ ts L an _ HV4.out HOK.out HG4.out han).mono ?_; rintro e w5 ⟨rfl, hb5⟩)
              go_meet
              exact ⟨by simp [HA.out], hb5⟩
            | true =>
              rw [hA] at e1
              have HA := Lib.hid hA
              clear hA
              have FLAG : True := trivial
              cases hC : (isM ts L bn).1 with
              | false =>
                rw [hC] at e2
                have HCb := Lib.hid hC
                clear hC
                go_wp2_with (first
                  | (go_at_call 15; have hflag := FLAG; refine (refIs_call _ _ ts L an _ HV4.out HOK.out HG4.out han).mono ?_; rintro e w5 ⟨rfl, hb5⟩; have HB5 := Lib.hid hb5; replace q3 := cell_later hb5 R3.out; have HV5 := Lib.hid (HV4.out.later hb5); have HG5 := Lib.hid (HG4.out.later hb5); clear hb5 FLAG hflag)
                  | (go_at_call 15; refine (refIs_call _ _ ts L bn _ HV5.out HOK.out HG5.out hbn).mono ?_; rintro e w6 ⟨rfl, hb6⟩))
                go_meet
                exact ⟨by simp [HA.out, HCb.out], HB5.out.trans (hb6.mono HB5.out.size)⟩
              | true =>
                rw [hC] at e2
                have HCb := Lib.hid hC
                clear hC
                go_wp2_with (first
                  | (go_at_call 15; have hflag := FLAG; refine (refIs_call _ _ ts L an _ HV4.out HOK.out HG4.out han).mono ?_; rintro e w5 ⟨rfl, hb5⟩; have HB5 := Lib.hid hb5; replace q3 := cell_later hb5 R3.out; have HV5 := Lib.hid (HV4.out.later hb5); have HG5 := Lib.hid (HG4.out.later hb5); clear hb5 FLAG hflag)
                  | (go_at_call 15; refine (refIs_call _ _ ts L bn _ HV5.out HOK.out HG5.out hbn).mono ?_; rintro e w6 ⟨rfl, hb6⟩))
                go_meet
                exact ⟨by simp [HA.out, HCb.out], HB5.out.trans (hb6.mono HB5.out.size)⟩
          case rest =>
            obtain ⟨wx, rfl⟩ : ∃ wx : World, wx = wc := ⟨_, rfl⟩
            obtain ⟨rfl, hb⟩ := hcut
            have HB6 := Lib.hid (HB4.out.trans (hb.mono HB4.out.size))
            have HBZ := Lib.hid (HBo.out.trans (HB6.out.mono HBo.out.size))
            have HX6 := Lib.hid ((hb.block w.heap.size (by omega)).trans HX4.out)
            clear q0 q1 q2 q3
            cases hAC : ((isM ts L an).1 && (isM ts L bn).1) with
            | false =>
              rw [hAC] at HOC
              clear hAC hb
              go_wp2_with fail
              go_roundw
              case rel => exact ⟨k + 1, by omega, by go_num, Lib.hid (HN.out.next HP.out HOC.out), HBZ.out⟩
              case measure => simp [intOf]; omega
            | true =>
              rw [hAC] at HOC
              clear hAC
              have he := Lib.hid (HNX.out.trans (find_first HP.out HOC.out HN.out))
              have q0 := cell_later hb R0.out
              have q1 := cell_later hb R1.out
              have q2 := cell_later hb R2.out
              have q3 := cell_later hb R3.out
              have r0 : wx.cell? ⟨w.heap.size, 0, none⟩ = some (vi 0) := by rw [cell_of HX6.out]; rfl
              have r1 : wx.cell? ⟨w.heap.size, 1, none⟩ = some (vi 0) := by rw [cell_of HX6.out]; rfl
              have r2 : wx.cell? ⟨w.heap.size, 2, none⟩ = some (vi 0) := by rw [cell_of HX6.out]; rfl
              have r3 : wx.cell? ⟨w.heap.size, 3, none⟩ = some (vi 0) := by rw [cell_of HX6.out]; rfl
              have fz := fun j => free_of HX6.out j
              clear hb
              go_wp2_with fail
              refine bodyPost_ret (v := .tuple #[chK ⟨2, ky, an, bn⟩, .bool true]) (by simp [results, Try.results17, go_sem, r0, r1, r2, r3]) rfl ⟨by rw [he.out]; rfl, ?_⟩
              exact ((((HB0.out.trans ((HB2.out.trans (HBZ.out.mono HB2.out.size)).mono HB0.out.size)).setCell (Nat.le_refl _) _).setCell (Nat.le_refl _) _).setCell (Nat.le_refl _) _).setCell (Nat.le_refl _) _
    · obtain rfl : k = C.length := by omega
      have he := Lib.hid (HNX.out.trans (find_no HN.out))
      have q0 : wk.cell? ⟨w.heap.size, 0, none⟩ = some (vi 0) := by rw [cell_of HXk.out]; rfl
      have q1 : wk.cell? ⟨w.heap.size, 1, none⟩ = some (vi 0) := by rw [cell_of HXk.out]; rfl
      have q2 : wk.cell? ⟨w.heap.size, 2, none⟩ = some (vi 0) := by rw [cell_of HXk.out]; rfl
      have q3 : wk.cell? ⟨w.heap.size, 3, none⟩ = some (vi 0) := by rw [cell_of HXk.out]; rfl
      have fz := fun j => free_of HXk.out j
      go_wp2_with fail
      refine bodyPost_ret (v := .tuple #[chK zeroC, .bool false]) (by simp [results, Try.results17, go_sem, q0, q1, q2, q3, zeroC]) rfl ⟨by rw [he.out]; rfl, ?_⟩
      exact ((((HB0.out.trans ((HB2.out.trans (HBk.out.mono HB2.out.size)).mono HB0.out.size)).setCell (Nat.le_refl _) _).setCell (Nat.le_refl _) _).setCell (Nat.le_refl _) _).setCell (Nat.le_refl _) _
end Go.Proofs.Ytafboehdihokhaa
